/- The functions' Lean twins and contracts, printed by this session's own program: part 3. -/
import Derived.Test.YtbhehllkimedaaaDoorG2
namespace Go.Proofs.YtbhehllkimedaaaDoor
open Go Go.RowKit Go.Proofs
set_option maxRecDepth 100000
set_option linter.unusedVariables false
def digest_Log_note.n (a_1 : List UInt8) (a_2 : List UInt8) : Option (Option O_Log) := some none
def digest_Log_note.j2 (x6 : List ((List UInt8) × (List UInt8))) (x7 : List ((List UInt8) × Bool)) : Option (Option O_Log) := some (some ⟨x6, x7⟩)
def digest_Log_note.j1 (s_0 : O_Log) (a_1 : List UInt8) (a_2 : List UInt8) (x5 : Bool) : Option (Option O_Log) := (if x5 = true then digest_Log_note.j2 s_0.f_inputs (upd a_2 true s_0.f_others) else digest_Log_note.j2 (upd a_1 a_2 s_0.f_inputs) s_0.f_others)
def digest_Log_note.s (s_0 : O_Log) (a_1 : List UInt8) (a_2 : List UInt8) : Option (Option O_Log) := (if ((lkp a_1 s_0.f_inputs).isSome) = true then digest_Log_note.j1 s_0 a_1 a_2 (!decide (((lkp a_1 s_0.f_inputs).getD []) = a_2)) else digest_Log_note.j1 s_0 a_1 a_2 false)
def digest_Log_note (L_0 : Option O_Log) (a_1 : List UInt8) (a_2 : List UInt8) : Option (Option O_Log) := match L_0 with | none => digest_Log_note.n a_1 a_2 | some s_0 => digest_Log_note.s s_0 a_1 a_2
theorem digest_Log_note_ok {p_0 : Value} {L_0 : Option O_Log} {a_1 : List UInt8} {a_2 : List UInt8} {r : (Option O_Log)} (hF : digest_Log_note L_0 a_1 a_2 = some r) : CallOk Tryd.prog KG 40 [(eqVP p_0), (aggVP [bytesCk 32 a_1]), (strVP a_2)] [(Log_e p_0 L_0)] (fun _ => [Log_e p_0 r]) (tupVP []) := by
  refine CallOk.intro 36 Tryd.func40 rfl Tryd.ntmps40 (Nat.le_of_ble_eq_true rfl) ?_
  intro c a w hG hn h
  unfold digest_Log_note at hF
  change SatL c [.slot 0 (eqVP p_0), .slot 1 (aggVP [bytesCk 32 a_1]), .slot 2 (strVP a_2), .res (Log_e p_0 L_0)] a w at h
  obtain ⟨h_0_0, h⟩ := h.ex 3 rfl
  obtain ⟨h_0_1, h⟩ := h.ex 3 rfl
  change SatL c [.slot 0 (eqVP p_0), .slot 1 (aggVP [bytesCk 32 a_1]), .slot 2 (strVP a_2), .res (Log_o p_0 h_0_0 h_0_1 L_0)] a w at h
  cases L_0 with
  | none =>
    change digest_Log_note.n a_1 a_2 = some r at hF
    unfold digest_Log_note.n at hF
    obtain rfl := h.isp 3 rfl (fun _ _ _ q => q.2)
    replace h := h.slotc 0 rfl (V' := ptrVP (.pointer none) false) (fun _ _ h => ⟨h, rfl⟩)
    change SatL c [.slot 0 (ptrVP (.pointer none) false), .slot 1 (aggVP [bytesCk 32 a_1]), .slot 2 (strVP a_2), .res (Log_o (.pointer none) h_0_0 h_0_1 none)] a w at h
    refine wp_seq ?_
    refine region_do (n := 36) [.slot 4 0 100000 (fun v1_ _ => (lpVP v1_ 0)),
      .res 0 100000 (fun v1_ _ => (lb (v1_) 24 [bytesCk 32 a_1]))] [0, 0] [⟨[1], [], [4, 5], [], some 4⟩] [0, 2, 4, 3, 5] mixed hn hG h (by kernel_rfl) ?_ ?_
    · exact ⟨⟨rfl, fun β => (GOk.plain (op_box (opt 0 rfl) (cells_agg _)) rfl)⟩, trivial⟩
    clear h
    intro β a w h
    change SatL c [.slot 0 (ptrVP (.pointer none) false), .slot 2 (strVP a_2), .slot 4 (lpVP (β 0) 0), .res (Log_o (.pointer none) h_0_0 h_0_1 none), .res (lb (β 0) 24 [bytesCk 32 a_1])] a w at h
    generalize β 0 = p1 at h
    clear β
    show Code.wp Tryd.prog _ _ a w
    refine wp_seq ?_
    refine wp_seq ?_
    refine region_do (n := 36) [.slot 8 100000 100000 (fun _ _ => (ptrVP (.pointer none) false)),
      .slot 9 100000 100000 (fun _ _ => (boolVP true))] [0, 1] [⟨[0], [], [5], [], some 8⟩, ⟨[5], [], [6], [0], some 9⟩] [0, 1, 2, 6, 3, 4] mixed hn hG h (by kernel_rfl) ?_ ?_
    · exact ⟨⟨rfl, fun β => (GOk.plain (op_move (opt 0 rfl)) rfl)⟩, ⟨rfl, fun β => (GOk.plain (op_bin (bin_pnil Tryd.underlying30) (opt 0 rfl) (opc (ec _))) rfl)⟩, trivial⟩
    clear h
    intro β a w h
    change SatL c [.slot 0 (ptrVP (.pointer none) false), .slot 2 (strVP a_2), .slot 4 (lpVP p1 0), .slot 9 (boolVP true), .res (Log_o (.pointer none) h_0_0 h_0_1 none), .res (lb p1 24 [bytesCk 32 a_1])] a w at h
    clear β
    show Code.wp Tryd.prog _ _ a w
    refine cond_L h 3 rfl (fun hb2 => ?_) (fun hb2 => ?_)
    · skip
      replace h := h.sub [4] (by rfl)
      change SatL c [.res (Log_o (.pointer none) h_0_0 h_0_1 none)] a w at h
      refine wp_ret ?_
      replace h := h.conv 0 rfl Log_packo
      change SatL c [.res (Log_e (.pointer none) none)] a w at h
      obtain rfl := Option.some.inj hF
      exact ⟨.inl rfl, retn h (rs := []) (Vs := []) Tryd.results40 (by decide) trivial [0] [(Log_e (.pointer none) none)] rfl rfl rfl⟩
    · cases hb2
  | some s_0 =>
    change digest_Log_note.s s_0 a_1 a_2 = some r at hF
    unfold digest_Log_note.s at hF
    have hp := h.isp 3 rfl (fun Φ f w q => Log_lp Φ f w q)
    replace h := h.slotc 0 rfl (V' := lpVP p_0 0) (fun _ _ h => eq_lp h hp)
    replace h := h.sep (R := lb p_0 71 [one (eqVP h_0_0), one (eqVP h_0_1)]) (S := (RP.sep (mapR h_0_0 arrK (fun l => l.length = 32) (fun u y => RP.val (strVP y) u) s_0.f_inputs) (mapR h_0_1 strK (fun l => l.length ≤ mxl) (fun u y => RP.val (boolVP y) u) s_0.f_others))) 3 rfl
    replace h := h.sep (R := mapR h_0_0 arrK (fun l => l.length = 32) (fun u y => RP.val (strVP y) u) s_0.f_inputs) (S := (mapR h_0_1 strK (fun l => l.length ≤ mxl) (fun u y => RP.val (boolVP y) u) s_0.f_others)) 4 rfl
    replace h := h.sub [0, 1, 2, 3, 4, 5] (by rfl)
    change SatL c [.slot 0 (lpVP p_0 0), .slot 1 (aggVP [bytesCk 32 a_1]), .slot 2 (strVP a_2), .res (lb p_0 71 [one (eqVP h_0_0), one (eqVP h_0_1)]), .res (mapR h_0_0 arrK (fun l => l.length = 32) (fun u y => RP.val (strVP y) u) s_0.f_inputs), .res (mapR h_0_1 strK (fun l => l.length ≤ mxl) (fun u y => RP.val (boolVP y) u) s_0.f_others)] a w at h
    refine wp_seq ?_
    refine region_do (n := 36) [.slot 4 0 100000 (fun v1_ _ => (lpVP v1_ 0)),
      .res 0 100000 (fun v1_ _ => (lb (v1_) 24 [bytesCk 32 a_1]))] [0, 0] [⟨[1], [], [6, 7], [], some 4⟩] [0, 2, 6, 3, 4, 5, 7] mixed hn hG h (by kernel_rfl) ?_ ?_
    · exact ⟨⟨rfl, fun β => (GOk.plain (op_box (opt 0 rfl) (cells_agg _)) rfl)⟩, trivial⟩
    clear h
    intro β a w h
    change SatL c [.slot 0 (lpVP p_0 0), .slot 2 (strVP a_2), .slot 4 (lpVP (β 0) 0), .res (lb p_0 71 [one (eqVP h_0_0), one (eqVP h_0_1)]), .res (mapR h_0_0 arrK (fun l => l.length = 32) (fun u y => RP.val (strVP y) u) s_0.f_inputs), .res (mapR h_0_1 strK (fun l => l.length ≤ mxl) (fun u y => RP.val (boolVP y) u) s_0.f_others), .res (lb (β 0) 24 [bytesCk 32 a_1])] a w at h
    generalize β 0 = p3 at h
    clear β
    show Code.wp Tryd.prog _ _ a w
    refine wp_seq ?_
    refine wp_seq ?_
    refine region_do (n := 36) [.slot 8 100000 100000 (fun _ _ => (lpVP p_0 0)),
      .slot 9 100000 100000 (fun _ _ => (boolVP false))] [0, 1] [⟨[0], [], [7], [], some 8⟩, ⟨[7], [], [8], [0], some 9⟩] [0, 1, 2, 8, 3, 4, 5, 6] mixed hn hG h (by kernel_rfl) ?_ ?_
    · exact ⟨⟨rfl, fun β => (GOk.plain (op_move (opt 0 rfl)) rfl)⟩, ⟨rfl, fun β => (GOk.plain (op_bin (bin_pnil Tryd.underlying30) (lp_ptr (opt 0 rfl)) (opc (ec _))) rfl)⟩, trivial⟩
    clear h
    intro β a w h
    change SatL c [.slot 0 (lpVP p_0 0), .slot 2 (strVP a_2), .slot 4 (lpVP p3 0), .slot 9 (boolVP false), .res (lb p_0 71 [one (eqVP h_0_0), one (eqVP h_0_1)]), .res (mapR h_0_0 arrK (fun l => l.length = 32) (fun u y => RP.val (strVP y) u) s_0.f_inputs), .res (mapR h_0_1 strK (fun l => l.length ≤ mxl) (fun u y => RP.val (boolVP y) u) s_0.f_others), .res (lb p3 24 [bytesCk 32 a_1])] a w at h
    clear β
    show Code.wp Tryd.prog _ _ a w
    refine cond_L h 3 rfl (fun hb4 => ?_) (fun hb4 => ?_)
    · cases hb4
    · skip
      replace h := h.sub [0, 1, 2, 4, 5, 6, 7] (by rfl)
      change SatL c [.slot 0 (lpVP p_0 0), .slot 2 (strVP a_2), .slot 4 (lpVP p3 0), .res (lb p_0 71 [one (eqVP h_0_0), one (eqVP h_0_1)]), .res (mapR h_0_0 arrK (fun l => l.length = 32) (fun u y => RP.val (strVP y) u) s_0.f_inputs), .res (mapR h_0_1 strK (fun l => l.length ≤ mxl) (fun u y => RP.val (boolVP y) u) s_0.f_others), .res (lb p3 24 [bytesCk 32 a_1])] a w at h
      refine wp_skip ?_
      show Code.wp Tryd.prog _ _ a w
      refine wp_seq ?_
      refine region_do (n := 36) [.slot 11 100000 100000 (fun _ _ => (lpVP p_0 0)),
      .slot 12 100000 100000 (fun _ _ => (lpVP p_0 0)),
      .slot 13 100000 100000 (fun _ _ => (lpVP p_0 0)),
      .slot 14 100000 100000 (fun _ _ => (eqVP h_0_0)),
      .slot 15 100000 100000 (fun _ _ => (aggVP [bytesCk 32 a_1])),
      .slot 16 100000 100000 (fun _ _ => (tupVP [(strVP ((lkp a_1 s_0.f_inputs).getD [])), (boolVP ((lkp a_1 s_0.f_inputs).isSome))])),
      .slot 10 100000 100000 (fun _ _ => (tupVP [(strVP ((lkp a_1 s_0.f_inputs).getD [])), (boolVP ((lkp a_1 s_0.f_inputs).isSome))])),
      .slot 17 100000 100000 (fun _ _ => (strVP ((lkp a_1 s_0.f_inputs).getD []))),
      .slot 18 100000 100000 (fun _ _ => (boolVP ((lkp a_1 s_0.f_inputs).isSome))),
      .slot 6 100000 100000 (fun _ _ => (strVP ((lkp a_1 s_0.f_inputs).getD []))),
      .slot 7 100000 100000 (fun _ _ => (boolVP ((lkp a_1 s_0.f_inputs).isSome)))] [0, 1, 2, 3, 4, 5, 6, 7, 8, 9, 10] [⟨[0], [], [7], [], some 11⟩, ⟨[7], [], [8], [0], some 12⟩, ⟨[8], [], [9], [0, 1], some 13⟩, ⟨[9, 3], [], [10], [0, 1, 2], some 14⟩, ⟨[2, 6], [], [11], [], some 15⟩, ⟨[10, 11, 4], [], [12], [0, 1, 2, 3, 4], some 16⟩, ⟨[12], [], [13], [0, 1, 2, 3, 4, 5], some 10⟩, ⟨[13], [], [14], [0, 1, 2, 3, 4, 5, 6], some 17⟩, ⟨[13], [], [15], [0, 1, 2, 3, 4, 5, 6], some 18⟩, ⟨[14], [], [16], [0, 1, 2, 3, 4, 5, 6, 7], some 6⟩, ⟨[15], [], [17], [0, 1, 2, 3, 4, 5, 6, 7, 8, 9], some 7⟩] [0, 1, 2, 16, 17, 3, 4, 5, 6] mixed hn hG h (by kernel_rfl) ?_ ?_
      · exact ⟨⟨rfl, fun β => (GOk.plain (op_move (opt 0 rfl)) rfl)⟩, ⟨rfl, fun β => (GOk.plain (op_nilCheck (opt 0 rfl) (ptr_lp _ _)) rfl)⟩, ⟨rfl, fun β => (GOk.plain (op_fieldAddr_lbm (p := p_0) (n := 1) 0 0 Tryd.underlying71 rfl Tryd.sizeOf68 (by decide) (opt 0 rfl) rfl) rfl)⟩, ⟨rfl, fun β => (GOk.plain (op_load_lb1 [] [one (eqVP h_0_1)] 1 Tryd.isAgg68 (opt 0 rfl) rfl rfl) rfl)⟩, ⟨rfl, fun β => (GOk.plain (op_load_lb [] [bytesCk 32 a_1] [] 1 Tryd.isAgg24 Tryd.sizeOf24 (opt 0 rfl) rfl rfl rfl) rfl)⟩, ⟨rfl, fun β => (GOk.plain (op_lookup strVP [] 2 Tryd.underlying68 (keyArr Tryd.underlying24 Tryd.underlying5 Tryd.type5 Tryd.sizeOf5 Tryd.isAgg5) Tryd.zeroValue9 (opt 0 rfl) (opt 1 rfl) hk_arr rfl res_id (fun _ _ _ _ _ h => h.2) (fun _ => ⟨rfl, by decide⟩)) rfl)⟩, ⟨rfl, fun β => (GOk.plain (op_move (opt 0 rfl)) rfl)⟩, ⟨rfl, fun β => (GOk.plain (op_extract (opt 0 rfl) rfl) rfl)⟩, ⟨rfl, fun β => (GOk.plain (op_extract (opt 0 rfl) rfl) rfl)⟩, ⟨rfl, fun β => (GOk.plain (op_assign (opt 0 rfl)) rfl)⟩, ⟨rfl, fun β => (GOk.plain (op_assign (opt 0 rfl)) rfl)⟩, trivial⟩
      clear h
      intro β a w h
      change SatL c [.slot 0 (lpVP p_0 0), .slot 2 (strVP a_2), .slot 4 (lpVP p3 0), .slot 6 (strVP ((lkp a_1 s_0.f_inputs).getD [])), .slot 7 (boolVP ((lkp a_1 s_0.f_inputs).isSome)), .res (lb p_0 71 [one (eqVP h_0_0), one (eqVP h_0_1)]), .res (mapR h_0_0 arrK (fun l => l.length = 32) (fun u y => RP.val (strVP y) u) s_0.f_inputs), .res (mapR h_0_1 strK (fun l => l.length ≤ mxl) (fun u y => RP.val (boolVP y) u) s_0.f_others), .res (lb p3 24 [bytesCk 32 a_1])] a w at h
      clear β
      show Code.wp Tryd.prog _ _ a w
      refine wp_seq ?_
      refine wp_cut (fun a w => ∃ (x5 : Bool), digest_Log_note.j1 s_0 a_1 a_2 x5 = some r ∧ SatL c [.slot 0 (lpVP p_0 0), .slot 2 (strVP a_2), .slot 4 (lpVP p3 0), .slot 24 (boolVP x5), .res (lb p_0 71 [one (eqVP h_0_0), one (eqVP h_0_1)]), .res (mapR h_0_0 arrK (fun l => l.length = 32) (fun u y => RP.val (strVP y) u) s_0.f_inputs), .res (mapR h_0_1 strK (fun l => l.length ≤ mxl) (fun u y => RP.val (boolVP y) u) s_0.f_others), .res (lb p3 24 [bytesCk 32 a_1])] a w) ?_ ?_
      · rcases Bool.eq_false_or_eq_true ((lkp a_1 s_0.f_inputs).isSome) with hb9 | hb9
        · replace hF := tt_of hb9 hF
          refine region_do (n := 36) [.slot 19 100000 100000 (fun _ _ => (boolVP ((lkp a_1 s_0.f_inputs).isSome))),
      .slot 20 100000 100000 (fun _ _ => (boolVP ((lkp a_1 s_0.f_inputs).isSome))),
      .slot 21 100000 100000 (fun _ _ => (strVP ((lkp a_1 s_0.f_inputs).getD []))),
      .slot 22 100000 100000 (fun _ _ => (strVP a_2)),
      .slot 23 100000 100000 (fun _ _ => (boolVP (!decide (((lkp a_1 s_0.f_inputs).getD []) = a_2)))),
      .slot 24 100000 100000 (fun _ _ => (boolVP (!decide (((lkp a_1 s_0.f_inputs).getD []) = a_2))))] [0, 1, 2, 3, 4, 5] [⟨[4], [], [9], [], some 19⟩, ⟨[9], [], [10], [0], some 20⟩, ⟨[10, 3], [], [11], [0, 1], some 21⟩, ⟨[10, 1], [], [12], [0, 1, 2], some 22⟩, ⟨[10, 11, 12], [], [13], [0, 1, 2, 3], some 23⟩, ⟨[10, 13], [], [14], [0, 1, 2, 3, 4], some 24⟩] [0, 1, 2, 14, 5, 6, 7, 8] mixed hn hG h (by kernel_rfl) ?_ ?_
          · exact ⟨⟨rfl, fun β => (GOk.plain (op_move (opt 0 rfl)) rfl)⟩, ⟨rfl, fun β => (GOk.plain (op_move (opt 0 rfl)) rfl)⟩, ⟨rfl, fun β => (GOk.on_eq hb9 rfl rfl rfl (op_move (opt 0 rfl)))⟩, ⟨rfl, fun β => (GOk.on_eq hb9 rfl rfl rfl (op_move (opt 0 rfl)))⟩, ⟨rfl, fun β => (GOk.on_eq hb9 rfl rfl rfl (op_bin bin_sneq (opt 0 rfl) (opt 1 rfl)))⟩, ⟨rfl, fun β => (GOk.plain (op_pick_t hb9 (opt 0 rfl) (opt 1 rfl)) rfl)⟩, trivial⟩
          clear h
          intro β a w h
          change SatL c [.slot 0 (lpVP p_0 0), .slot 2 (strVP a_2), .slot 4 (lpVP p3 0), .slot 24 (boolVP (!decide (((lkp a_1 s_0.f_inputs).getD []) = a_2))), .res (lb p_0 71 [one (eqVP h_0_0), one (eqVP h_0_1)]), .res (mapR h_0_0 arrK (fun l => l.length = 32) (fun u y => RP.val (strVP y) u) s_0.f_inputs), .res (mapR h_0_1 strK (fun l => l.length ≤ mxl) (fun u y => RP.val (boolVP y) u) s_0.f_others), .res (lb p3 24 [bytesCk 32 a_1])] a w at h
          clear β
          exact ⟨!decide (((lkp a_1 s_0.f_inputs).getD []) = a_2), hF, h.sub [0, 1, 2, 3, 4, 5, 6, 7] (by rfl)⟩
        · replace hF := ff_of hb9 hF
          refine region_do (n := 36) [.slot 19 100000 100000 (fun _ _ => (boolVP ((lkp a_1 s_0.f_inputs).isSome))),
      .slot 20 100000 100000 (fun _ _ => (boolVP ((lkp a_1 s_0.f_inputs).isSome))),
      .slot 21 100000 100000 (fun _ _ => (eqVP undef)),
      .slot 22 100000 100000 (fun _ _ => (eqVP undef)),
      .slot 23 100000 100000 (fun _ _ => (eqVP undef)),
      .slot 24 100000 100000 (fun _ _ => (boolVP false))] [0, 1, 2, 3, 4, 5] [⟨[4], [], [9], [], some 19⟩, ⟨[9], [], [10], [0], some 20⟩, ⟨[10], [], [11], [0, 1], some 21⟩, ⟨[10], [], [12], [0, 1, 2], some 22⟩, ⟨[10], [], [13], [0, 1, 2, 3], some 23⟩, ⟨[10], [], [14], [0, 1, 2, 3, 4], some 24⟩] [0, 1, 2, 14, 5, 6, 7, 8] mixed hn hG h (by kernel_rfl) ?_ ?_
          · exact ⟨⟨rfl, fun β => (GOk.plain (op_move (opt 0 rfl)) rfl)⟩, ⟨rfl, fun β => (GOk.plain (op_move (opt 0 rfl)) rfl)⟩, ⟨rfl, fun β => (GOk.off_v (want := true) hb9 rfl rfl rfl rfl)⟩, ⟨rfl, fun β => (GOk.off_v (want := true) hb9 rfl rfl rfl rfl)⟩, ⟨rfl, fun β => (GOk.off_v (want := true) hb9 rfl rfl rfl rfl)⟩, ⟨rfl, fun β => (GOk.plain (op_pick_f hb9 (opt 0 rfl) (opc (bc _))) rfl)⟩, trivial⟩
          clear h
          intro β a w h
          change SatL c [.slot 0 (lpVP p_0 0), .slot 2 (strVP a_2), .slot 4 (lpVP p3 0), .slot 24 (boolVP false), .res (lb p_0 71 [one (eqVP h_0_0), one (eqVP h_0_1)]), .res (mapR h_0_0 arrK (fun l => l.length = 32) (fun u y => RP.val (strVP y) u) s_0.f_inputs), .res (mapR h_0_1 strK (fun l => l.length ≤ mxl) (fun u y => RP.val (boolVP y) u) s_0.f_others), .res (lb p3 24 [bytesCk 32 a_1])] a w at h
          clear β
          exact ⟨false, hF, h.sub [0, 1, 2, 3, 4, 5, 6, 7] (by rfl)⟩
      · clear h hF
        rintro a w ⟨x5, hF, h⟩
        unfold digest_Log_note.j1 at hF
        show Code.wp Tryd.prog _ _ a w
        refine wp_cut (fun a w => ∃ (x6 : List ((List UInt8) × (List UInt8))), ∃ (x7 : List ((List UInt8) × Bool)), digest_Log_note.j2 x6 x7 = some r ∧ SatL c [.res (lb p_0 71 [one (eqVP h_0_0), one (eqVP h_0_1)]), .res (mapR h_0_0 arrK (fun l => l.length = 32) (fun u y => RP.val (strVP y) u) x6), .res (mapR h_0_1 strK (fun l => l.length ≤ mxl) (fun u y => RP.val (boolVP y) u) x7)] a w) ?_ ?_
        · refine cond_L h 3 rfl (fun hb8 => ?_) (fun hb8 => ?_)
          · replace hF := tt_of hb8 hF
            replace h := h.sub [0, 1, 4, 5, 6] (by rfl)
            change SatL c [.slot 0 (lpVP p_0 0), .slot 2 (strVP a_2), .res (lb p_0 71 [one (eqVP h_0_0), one (eqVP h_0_1)]), .res (mapR h_0_0 arrK (fun l => l.length = 32) (fun u y => RP.val (strVP y) u) s_0.f_inputs), .res (mapR h_0_1 strK (fun l => l.length ≤ mxl) (fun u y => RP.val (boolVP y) u) s_0.f_others)] a w at h
            refine region_do (n := 36) [.slot 25 100000 100000 (fun _ _ => (lpVP p_0 0)),
      .slot 26 100000 100000 (fun _ _ => (lpVP p_0 0)),
      .slot 27 100000 100000 (fun _ _ => (lpVP p_0 1)),
      .slot 28 100000 100000 (fun _ _ => (eqVP h_0_1)),
      .slot 29 100000 100000 (fun _ _ => (strVP a_2)),
      .res 100000 100000 (fun _ _ => (mapR h_0_1 strK (fun l => l.length ≤ mxl) (fun u y => RP.val (boolVP y) u) (upd a_2 true s_0.f_others)))] [0, 1, 2, 3, 4, 5] [⟨[0], [], [5], [], some 25⟩, ⟨[5], [], [6], [0], some 26⟩, ⟨[6], [], [7], [0, 1], some 27⟩, ⟨[7, 2], [], [8], [0, 1, 2], some 28⟩, ⟨[1], [], [9], [0, 1, 2, 3], some 29⟩, ⟨[8, 9], [4], [10], [0, 1, 2, 3, 4], none⟩] [2, 3, 10] mixed hn hG h (by kernel_rfl) ?_ ?_
            · exact ⟨⟨rfl, fun β => (GOk.plain (op_move (opt 0 rfl)) rfl)⟩, ⟨rfl, fun β => (GOk.plain (op_nilCheck (opt 0 rfl) (ptr_lp _ _)) rfl)⟩, ⟨rfl, fun β => (GOk.plain (op_fieldAddr_lbm (p := p_0) (n := 1) 0 1 Tryd.underlying71 rfl Tryd.sizeOf69 (by decide) (opt 0 rfl) rfl) rfl)⟩, ⟨rfl, fun β => (GOk.plain (op_load_lb1 [one (eqVP h_0_0)] [] 1 Tryd.isAgg69 (opt 0 rfl) rfl rfl) rfl)⟩, ⟨rfl, fun β => (GOk.plain (op_move (opt 0 rfl)) rfl)⟩, ⟨rfl, fun β => (GOk.plain (op_mapUpdate Tryd.underlying69 (keyStrL Tryd.underlying9) (opt 0 rfl) (opt 1 rfl) hk_strL (opc (bc _))) rfl)⟩, trivial⟩
            clear h
            intro β a w h
            change SatL c [.res (lb p_0 71 [one (eqVP h_0_0), one (eqVP h_0_1)]), .res (mapR h_0_0 arrK (fun l => l.length = 32) (fun u y => RP.val (strVP y) u) s_0.f_inputs), .res (mapR h_0_1 strK (fun l => l.length ≤ mxl) (fun u y => RP.val (boolVP y) u) (upd a_2 true s_0.f_others))] a w at h
            clear β
            exact ⟨s_0.f_inputs, upd a_2 true s_0.f_others, hF, h.sub [0, 1, 2] (by rfl)⟩
          · replace hF := ff_of hb8 hF
            replace h := h.sub [0, 1, 2, 4, 5, 6, 7] (by rfl)
            change SatL c [.slot 0 (lpVP p_0 0), .slot 2 (strVP a_2), .slot 4 (lpVP p3 0), .res (lb p_0 71 [one (eqVP h_0_0), one (eqVP h_0_1)]), .res (mapR h_0_0 arrK (fun l => l.length = 32) (fun u y => RP.val (strVP y) u) s_0.f_inputs), .res (mapR h_0_1 strK (fun l => l.length ≤ mxl) (fun u y => RP.val (boolVP y) u) s_0.f_others), .res (lb p3 24 [bytesCk 32 a_1])] a w at h
            refine region_do (n := 36) [.slot 30 100000 100000 (fun _ _ => (lpVP p_0 0)),
      .slot 31 100000 100000 (fun _ _ => (lpVP p_0 0)),
      .slot 32 100000 100000 (fun _ _ => (lpVP p_0 0)),
      .slot 33 100000 100000 (fun _ _ => (eqVP h_0_0)),
      .slot 34 100000 100000 (fun _ _ => (aggVP [bytesCk 32 a_1])),
      .slot 35 100000 100000 (fun _ _ => (strVP a_2)),
      .res 100000 100000 (fun _ _ => (mapR h_0_0 arrK (fun l => l.length = 32) (fun u y => RP.val (strVP y) u) (upd a_1 a_2 s_0.f_inputs)))] [0, 1, 2, 3, 4, 5, 6] [⟨[0], [], [7], [], some 30⟩, ⟨[7], [], [8], [0], some 31⟩, ⟨[8], [], [9], [0, 1], some 32⟩, ⟨[9, 3], [], [10], [0, 1, 2], some 33⟩, ⟨[2, 6], [], [11], [], some 34⟩, ⟨[1], [], [12], [], some 35⟩, ⟨[10, 11, 12], [4], [13], [0, 1, 2, 3, 4, 5], none⟩] [3, 13, 5] mixed hn hG h (by kernel_rfl) ?_ ?_
            · exact ⟨⟨rfl, fun β => (GOk.plain (op_move (opt 0 rfl)) rfl)⟩, ⟨rfl, fun β => (GOk.plain (op_nilCheck (opt 0 rfl) (ptr_lp _ _)) rfl)⟩, ⟨rfl, fun β => (GOk.plain (op_fieldAddr_lbm (p := p_0) (n := 1) 0 0 Tryd.underlying71 rfl Tryd.sizeOf68 (by decide) (opt 0 rfl) rfl) rfl)⟩, ⟨rfl, fun β => (GOk.plain (op_load_lb1 [] [one (eqVP h_0_1)] 1 Tryd.isAgg68 (opt 0 rfl) rfl rfl) rfl)⟩, ⟨rfl, fun β => (GOk.plain (op_load_lb [] [bytesCk 32 a_1] [] 1 Tryd.isAgg24 Tryd.sizeOf24 (opt 0 rfl) rfl rfl rfl) rfl)⟩, ⟨rfl, fun β => (GOk.plain (op_move (opt 0 rfl)) rfl)⟩, ⟨rfl, fun β => (GOk.plain (op_mapUpdate Tryd.underlying68 (keyArr Tryd.underlying24 Tryd.underlying5 Tryd.type5 Tryd.sizeOf5 Tryd.isAgg5) (opt 0 rfl) (opt 1 rfl) hk_arr (opt 2 rfl)) rfl)⟩, trivial⟩
            clear h
            intro β a w h
            change SatL c [.res (lb p_0 71 [one (eqVP h_0_0), one (eqVP h_0_1)]), .res (mapR h_0_0 arrK (fun l => l.length = 32) (fun u y => RP.val (strVP y) u) (upd a_1 a_2 s_0.f_inputs)), .res (mapR h_0_1 strK (fun l => l.length ≤ mxl) (fun u y => RP.val (boolVP y) u) s_0.f_others)] a w at h
            clear β
            exact ⟨upd a_1 a_2 s_0.f_inputs, s_0.f_others, hF, h.sub [0, 1, 2] (by rfl)⟩
        · clear h hF
          rintro a w ⟨x6, x7, hF, h⟩
          unfold digest_Log_note.j2 at hF
          replace h := h.unsep 1 2 rfl rfl (by decide)
          replace h := h.unsep 0 1 rfl rfl (by decide)
          replace h := h.conv 0 rfl (R' := Log_e p_0 (some ⟨x6, x7⟩)) (Log_packo (v0 := h_0_0) (v1 := h_0_1) (o := (some ⟨x6, x7⟩)))
          replace h := h.sub [0] (by rfl)
          change SatL c [.res (Log_e p_0 (some ⟨x6, x7⟩))] a w at h
          obtain rfl := Option.some.inj hF
          exact ⟨.inr rfl, retn h (rs := []) (Vs := []) Tryd.results40 (by decide) trivial [0] [(Log_e p_0 (some ⟨x6, x7⟩))] rfl rfl rfl⟩

def digest_Log_Count.n : Option Int := some 0
def digest_Log_Count.s (s_0 : O_Log) : Option Int := (if s_0.f_inputs.length ≤ mxl then (if s_0.f_others.length ≤ mxl then some (IntKind.wrap .i64 ((s_0.f_inputs.length : Int) + (s_0.f_others.length : Int))) else none) else none)
def digest_Log_Count (L_0 : Option O_Log) : Option Int := match L_0 with | none => digest_Log_Count.n | some s_0 => digest_Log_Count.s s_0
theorem digest_Log_Count_ok {p_0 : Value} {h_0_0 : Value} {h_0_1 : Value} {L_0 : Option O_Log} {r : Int} (hF : digest_Log_Count L_0 = some r) : CallOk Tryd.prog KG 15 [(eqVP p_0)] [(Log_o p_0 h_0_0 h_0_1 L_0)] (fun _ => [(Log_o p_0 h_0_0 h_0_1 L_0)]) (intVP .i64 r) := by
  refine CallOk.intro 16 Tryd.func15 rfl Tryd.ntmps15 (Nat.le_of_ble_eq_true rfl) ?_
  intro c a w hG hn h
  unfold digest_Log_Count at hF
  change SatL c [.slot 0 (eqVP p_0), .res (Log_o p_0 h_0_0 h_0_1 L_0)] a w at h
  cases L_0 with
  | none =>
    change digest_Log_Count.n = some r at hF
    unfold digest_Log_Count.n at hF
    obtain rfl := h.isp 1 rfl (fun _ _ _ q => q.2)
    replace h := h.slotc 0 rfl (V' := ptrVP (.pointer none) false) (fun _ _ h => ⟨h, rfl⟩)
    change SatL c [.slot 0 (ptrVP (.pointer none) false), .res (Log_o (.pointer none) h_0_0 h_0_1 none)] a w at h
    refine wp_seq ?_
    refine region_do (n := 16) [.slot 2 100000 100000 (fun _ _ => (intVP .i64 0))] [0] [⟨[], [], [2], [], some 2⟩] [0, 1] mixed hn hG h (by kernel_rfl) ?_ ?_
    · exact ⟨⟨rfl, fun β => (GOk.plain (op_assign (opc (ic (by decide)))) rfl)⟩, trivial⟩
    clear h
    intro β a w h
    change SatL c [.slot 0 (ptrVP (.pointer none) false), .res (Log_o (.pointer none) h_0_0 h_0_1 none)] a w at h
    clear β
    show Code.wp Tryd.prog _ _ a w
    refine wp_seq ?_
    refine wp_seq ?_
    refine region_do (n := 16) [.slot 3 100000 100000 (fun _ _ => (ptrVP (.pointer none) false)),
      .slot 4 100000 100000 (fun _ _ => (boolVP true))] [0, 1] [⟨[0], [], [2], [], some 3⟩, ⟨[2], [], [3], [0], some 4⟩] [0, 3, 1] mixed hn hG h (by kernel_rfl) ?_ ?_
    · exact ⟨⟨rfl, fun β => (GOk.plain (op_move (opt 0 rfl)) rfl)⟩, ⟨rfl, fun β => (GOk.plain (op_bin (bin_pnil Tryd.underlying30) (opt 0 rfl) (opc (ec _))) rfl)⟩, trivial⟩
    clear h
    intro β a w h
    change SatL c [.slot 0 (ptrVP (.pointer none) false), .slot 4 (boolVP true), .res (Log_o (.pointer none) h_0_0 h_0_1 none)] a w at h
    clear β
    show Code.wp Tryd.prog _ _ a w
    refine cond_L h 1 rfl (fun hb1 => ?_) (fun hb1 => ?_)
    · skip
      replace h := h.sub [2] (by rfl)
      change SatL c [.res (Log_o (.pointer none) h_0_0 h_0_1 none)] a w at h
      refine wp_seq ?_
      refine region_do (n := 16) [.slot 2 100000 100000 (fun _ _ => (intVP .i64 0))] [0] [⟨[], [], [1], [], some 2⟩] [1, 0] mixed hn hG h (by kernel_rfl) ?_ ?_
      · exact ⟨⟨rfl, fun β => (GOk.plain (op_assign (opc (ic (by decide)))) rfl)⟩, trivial⟩
      clear h
      intro β a w h
      change SatL c [.slot 2 (intVP .i64 0), .res (Log_o (.pointer none) h_0_0 h_0_1 none)] a w at h
      clear β
      show Code.wp Tryd.prog _ _ a w
      refine wp_ret ?_
      obtain rfl := Option.some.inj hF
      exact ⟨.inl rfl, ret1 h Tryd.results15 (r_tmp 0 rfl) [1] [(Log_o (.pointer none) h_0_0 h_0_1 none)] rfl rfl rfl⟩
    · cases hb1
  | some s_0 =>
    change digest_Log_Count.s s_0 = some r at hF
    unfold digest_Log_Count.s at hF
    have hp := h.isp 1 rfl (fun Φ f w q => Log_lp Φ f w q)
    replace h := h.slotc 0 rfl (V' := lpVP p_0 0) (fun _ _ h => eq_lp h hp)
    replace h := h.sep (R := lb p_0 71 [one (eqVP h_0_0), one (eqVP h_0_1)]) (S := (RP.sep (mapR h_0_0 arrK (fun l => l.length = 32) (fun u y => RP.val (strVP y) u) s_0.f_inputs) (mapR h_0_1 strK (fun l => l.length ≤ mxl) (fun u y => RP.val (boolVP y) u) s_0.f_others))) 1 rfl
    replace h := h.sep (R := mapR h_0_0 arrK (fun l => l.length = 32) (fun u y => RP.val (strVP y) u) s_0.f_inputs) (S := (mapR h_0_1 strK (fun l => l.length ≤ mxl) (fun u y => RP.val (boolVP y) u) s_0.f_others)) 2 rfl
    replace h := h.sub [0, 1, 2, 3] (by rfl)
    change SatL c [.slot 0 (lpVP p_0 0), .res (lb p_0 71 [one (eqVP h_0_0), one (eqVP h_0_1)]), .res (mapR h_0_0 arrK (fun l => l.length = 32) (fun u y => RP.val (strVP y) u) s_0.f_inputs), .res (mapR h_0_1 strK (fun l => l.length ≤ mxl) (fun u y => RP.val (boolVP y) u) s_0.f_others)] a w at h
    refine wp_seq ?_
    refine region_do (n := 16) [.slot 2 100000 100000 (fun _ _ => (intVP .i64 0))] [0] [⟨[], [], [4], [], some 2⟩] [0, 1, 2, 3] mixed hn hG h (by kernel_rfl) ?_ ?_
    · exact ⟨⟨rfl, fun β => (GOk.plain (op_assign (opc (ic (by decide)))) rfl)⟩, trivial⟩
    clear h
    intro β a w h
    change SatL c [.slot 0 (lpVP p_0 0), .res (lb p_0 71 [one (eqVP h_0_0), one (eqVP h_0_1)]), .res (mapR h_0_0 arrK (fun l => l.length = 32) (fun u y => RP.val (strVP y) u) s_0.f_inputs), .res (mapR h_0_1 strK (fun l => l.length ≤ mxl) (fun u y => RP.val (boolVP y) u) s_0.f_others)] a w at h
    clear β
    show Code.wp Tryd.prog _ _ a w
    refine wp_seq ?_
    refine wp_seq ?_
    refine region_do (n := 16) [.slot 3 100000 100000 (fun _ _ => (lpVP p_0 0)),
      .slot 4 100000 100000 (fun _ _ => (boolVP false))] [0, 1] [⟨[0], [], [4], [], some 3⟩, ⟨[4], [], [5], [0], some 4⟩] [0, 5, 1, 2, 3] mixed hn hG h (by kernel_rfl) ?_ ?_
    · exact ⟨⟨rfl, fun β => (GOk.plain (op_move (opt 0 rfl)) rfl)⟩, ⟨rfl, fun β => (GOk.plain (op_bin (bin_pnil Tryd.underlying30) (lp_ptr (opt 0 rfl)) (opc (ec _))) rfl)⟩, trivial⟩
    clear h
    intro β a w h
    change SatL c [.slot 0 (lpVP p_0 0), .slot 4 (boolVP false), .res (lb p_0 71 [one (eqVP h_0_0), one (eqVP h_0_1)]), .res (mapR h_0_0 arrK (fun l => l.length = 32) (fun u y => RP.val (strVP y) u) s_0.f_inputs), .res (mapR h_0_1 strK (fun l => l.length ≤ mxl) (fun u y => RP.val (boolVP y) u) s_0.f_others)] a w at h
    clear β
    show Code.wp Tryd.prog _ _ a w
    refine cond_L h 1 rfl (fun hb2 => ?_) (fun hb2 => ?_)
    · cases hb2
    · skip
      replace h := h.sub [0, 2, 3, 4] (by rfl)
      change SatL c [.slot 0 (lpVP p_0 0), .res (lb p_0 71 [one (eqVP h_0_0), one (eqVP h_0_1)]), .res (mapR h_0_0 arrK (fun l => l.length = 32) (fun u y => RP.val (strVP y) u) s_0.f_inputs), .res (mapR h_0_1 strK (fun l => l.length ≤ mxl) (fun u y => RP.val (boolVP y) u) s_0.f_others)] a w at h
      refine wp_skip ?_
      show Code.wp Tryd.prog _ _ a w
      refine wp_seq ?_
      obtain ⟨hv3, hF⟩ := ite_some hF
      obtain ⟨hv4, hF⟩ := ite_some hF
      refine region_do (n := 16) [.slot 5 100000 100000 (fun _ _ => (lpVP p_0 0)),
      .slot 6 100000 100000 (fun _ _ => (lpVP p_0 0)),
      .slot 7 100000 100000 (fun _ _ => (lpVP p_0 0)),
      .slot 8 100000 100000 (fun _ _ => (eqVP h_0_0)),
      .slot 9 100000 100000 (fun _ _ => (intVP .i64 (s_0.f_inputs.length : Int))),
      .slot 10 100000 100000 (fun _ _ => (lpVP p_0 0)),
      .slot 11 100000 100000 (fun _ _ => (lpVP p_0 0)),
      .slot 12 100000 100000 (fun _ _ => (lpVP p_0 1)),
      .slot 13 100000 100000 (fun _ _ => (eqVP h_0_1)),
      .slot 14 100000 100000 (fun _ _ => (intVP .i64 (s_0.f_others.length : Int))),
      .slot 15 100000 100000 (fun _ _ => (intVP .i64 (IntKind.wrap .i64 ((s_0.f_inputs.length : Int) + (s_0.f_others.length : Int))))),
      .slot 2 100000 100000 (fun _ _ => (intVP .i64 (IntKind.wrap .i64 ((s_0.f_inputs.length : Int) + (s_0.f_others.length : Int)))))] [0, 1, 2, 3, 4, 5, 6, 7, 8, 9, 10, 11] [⟨[0], [], [4], [], some 5⟩, ⟨[4], [], [5], [0], some 6⟩, ⟨[5], [], [6], [0, 1], some 7⟩, ⟨[6, 1], [], [7], [0, 1, 2], some 8⟩, ⟨[7, 2], [], [8], [0, 1, 2, 3], some 9⟩, ⟨[0], [], [9], [], some 10⟩, ⟨[9], [], [10], [5], some 11⟩, ⟨[10], [], [11], [5, 6], some 12⟩, ⟨[11, 1], [], [12], [5, 6, 7], some 13⟩, ⟨[12, 3], [], [13], [0, 1, 2, 3, 4, 5, 6, 7, 8], some 14⟩, ⟨[8, 13], [], [14], [0, 1, 2, 3, 4, 5, 6, 7, 8, 9], some 15⟩, ⟨[14], [], [15], [0, 1, 2, 3, 4, 5, 6, 7, 8, 9, 10], some 2⟩] [15, 1, 2, 3] mixed hn hG h (by kernel_rfl) ?_ ?_
      · exact ⟨⟨rfl, fun β => (GOk.plain (op_move (opt 0 rfl)) rfl)⟩, ⟨rfl, fun β => (GOk.plain (op_nilCheck (opt 0 rfl) (ptr_lp _ _)) rfl)⟩, ⟨rfl, fun β => (GOk.plain (op_fieldAddr_lbm (p := p_0) (n := 1) 0 0 Tryd.underlying71 rfl Tryd.sizeOf68 (by decide) (opt 0 rfl) rfl) rfl)⟩, ⟨rfl, fun β => (GOk.plain (op_load_lb1 [] [one (eqVP h_0_1)] 1 Tryd.isAgg68 (opt 0 rfl) rfl rfl) rfl)⟩, ⟨rfl, fun β => (GOk.plain (op_len_map 1 Tryd.underlying68 (opt 0 rfl) rfl res_id hv3) rfl)⟩, ⟨rfl, fun β => (GOk.plain (op_move (opt 0 rfl)) rfl)⟩, ⟨rfl, fun β => (GOk.plain (op_nilCheck (opt 0 rfl) (ptr_lp _ _)) rfl)⟩, ⟨rfl, fun β => (GOk.plain (op_fieldAddr_lbm (p := p_0) (n := 1) 0 1 Tryd.underlying71 rfl Tryd.sizeOf69 (by decide) (opt 0 rfl) rfl) rfl)⟩, ⟨rfl, fun β => (GOk.plain (op_load_lb1 [one (eqVP h_0_0)] [] 1 Tryd.isAgg69 (opt 0 rfl) rfl rfl) rfl)⟩, ⟨rfl, fun β => (GOk.plain (op_len_map 1 Tryd.underlying69 (opt 0 rfl) rfl res_id hv4) rfl)⟩, ⟨rfl, fun β => (GOk.plain (op_bin bin_add (opt 0 rfl) (opt 1 rfl)) rfl)⟩, ⟨rfl, fun β => (GOk.plain (op_assign (opt 0 rfl)) rfl)⟩, trivial⟩
      clear h
      intro β a w h
      change SatL c [.slot 2 (intVP .i64 (IntKind.wrap .i64 ((s_0.f_inputs.length : Int) + (s_0.f_others.length : Int)))), .res (lb p_0 71 [one (eqVP h_0_0), one (eqVP h_0_1)]), .res (mapR h_0_0 arrK (fun l => l.length = 32) (fun u y => RP.val (strVP y) u) s_0.f_inputs), .res (mapR h_0_1 strK (fun l => l.length ≤ mxl) (fun u y => RP.val (boolVP y) u) s_0.f_others)] a w at h
      clear β
      show Code.wp Tryd.prog _ _ a w
      refine wp_ret ?_
      replace h := h.unsep 2 3 rfl rfl (by decide)
      replace h := h.unsep 1 2 rfl rfl (by decide)
      replace h := h.sub [0, 1] (by rfl)
      change SatL c [.slot 2 (intVP .i64 (IntKind.wrap .i64 ((s_0.f_inputs.length : Int) + (s_0.f_others.length : Int)))), .res (Log_o p_0 h_0_0 h_0_1 (some s_0))] a w at h
      obtain rfl := Option.some.inj hF
      exact ⟨.inl rfl, ret1 h Tryd.results15 (r_tmp 0 rfl) [1] [(Log_o p_0 h_0_0 h_0_1 (some s_0))] rfl rfl rfl⟩
theorem digest_Log_Count_oke {p_0 : Value} {L_0 : Option O_Log} {r : Int} (hF : digest_Log_Count L_0 = some r) : CallOk Tryd.prog KG 15 [(eqVP p_0)] [Log_e p_0 L_0] (fun _ => [Log_e p_0 L_0]) (intVP .i64 r) := CallOk.ex fun h_0_0 => CallOk.ex fun h_0_1 => digest_Log_Count_ok hF
theorem digest_Log_Count_oku {p_0 : Value} {h_0_0 : Value} {h_0_1 : Value} {s_0 : O_Log} {r : Int} (hF : digest_Log_Count (some s_0) = some r) : CallOk Tryd.prog KG 15 [(eqVP p_0)] [lb p_0 71 [one (eqVP h_0_0), one (eqVP h_0_1)], mapR h_0_0 arrK (fun l => l.length = 32) (fun u y => RP.val (strVP y) u) s_0.f_inputs, mapR h_0_1 strK (fun l => l.length ≤ mxl) (fun u y => RP.val (boolVP y) u) s_0.f_others] (fun _ => [lb p_0 71 [one (eqVP h_0_0), one (eqVP h_0_1)], mapR h_0_0 arrK (fun l => l.length = 32) (fun u y => RP.val (strVP y) u) s_0.f_inputs, mapR h_0_1 strK (fun l => l.length ≤ mxl) (fun u y => RP.val (boolVP y) u) s_0.f_others]) (intVP .i64 r) := CallOk.split2 (digest_Log_Count_ok hF)

def digest_Log_Clash.n : Option Bool := some false
def digest_Log_Clash.s (s_0 : O_Log) : Option Bool := (if s_0.f_others.length ≤ mxl then some (decide ((0 : Int) < (s_0.f_others.length : Int))) else none)
def digest_Log_Clash (L_0 : Option O_Log) : Option Bool := match L_0 with | none => digest_Log_Clash.n | some s_0 => digest_Log_Clash.s s_0
theorem digest_Log_Clash_ok {p_0 : Value} {h_0_0 : Value} {h_0_1 : Value} {L_0 : Option O_Log} {r : Bool} (hF : digest_Log_Clash L_0 = some r) : CallOk Tryd.prog KG 16 [(eqVP p_0)] [(Log_o p_0 h_0_0 h_0_1 L_0)] (fun _ => [(Log_o p_0 h_0_0 h_0_1 L_0)]) (boolVP r) := by
  refine CallOk.intro 13 Tryd.func16 rfl Tryd.ntmps16 (Nat.le_of_ble_eq_true rfl) ?_
  intro c a w hG hn h
  unfold digest_Log_Clash at hF
  change SatL c [.slot 0 (eqVP p_0), .res (Log_o p_0 h_0_0 h_0_1 L_0)] a w at h
  cases L_0 with
  | none =>
    change digest_Log_Clash.n = some r at hF
    unfold digest_Log_Clash.n at hF
    obtain rfl := h.isp 1 rfl (fun _ _ _ q => q.2)
    replace h := h.slotc 0 rfl (V' := ptrVP (.pointer none) false) (fun _ _ h => ⟨h, rfl⟩)
    change SatL c [.slot 0 (ptrVP (.pointer none) false), .res (Log_o (.pointer none) h_0_0 h_0_1 none)] a w at h
    refine wp_seq ?_
    refine region_do (n := 13) [.slot 2 100000 100000 (fun _ _ => (boolVP false))] [0] [⟨[], [], [2], [], some 2⟩] [0, 1] mixed hn hG h (by kernel_rfl) ?_ ?_
    · exact ⟨⟨rfl, fun β => (GOk.plain (op_assign (opc (bc _))) rfl)⟩, trivial⟩
    clear h
    intro β a w h
    change SatL c [.slot 0 (ptrVP (.pointer none) false), .res (Log_o (.pointer none) h_0_0 h_0_1 none)] a w at h
    clear β
    show Code.wp Tryd.prog _ _ a w
    refine wp_seq ?_
    refine region_do (n := 13) [.slot 3 100000 100000 (fun _ _ => (ptrVP (.pointer none) false)),
      .slot 4 100000 100000 (fun _ _ => (boolVP false)),
      .slot 5 100000 100000 (fun _ _ => (boolVP false)),
      .slot 6 100000 100000 (fun _ _ => (eqVP undef)),
      .slot 7 100000 100000 (fun _ _ => (eqVP undef)),
      .slot 8 100000 100000 (fun _ _ => (eqVP undef)),
      .slot 9 100000 100000 (fun _ _ => (eqVP undef)),
      .slot 10 100000 100000 (fun _ _ => (eqVP undef)),
      .slot 11 100000 100000 (fun _ _ => (eqVP undef)),
      .slot 12 100000 100000 (fun _ _ => (boolVP false)),
      .slot 2 100000 100000 (fun _ _ => (boolVP false))] [0, 1, 2, 3, 4, 5, 6, 7, 8, 9, 10] [⟨[0], [], [2], [], some 3⟩, ⟨[2], [], [3], [0], some 4⟩, ⟨[3], [], [4], [0, 1], some 5⟩, ⟨[4], [], [5], [0, 1, 2], some 6⟩, ⟨[4], [], [6], [0, 1, 2, 3], some 7⟩, ⟨[4], [], [7], [0, 1, 2, 3, 4], some 8⟩, ⟨[4], [], [8], [0, 1, 2, 3, 4, 5], some 9⟩, ⟨[4], [], [9], [0, 1, 2, 3, 4, 5, 6], some 10⟩, ⟨[4], [], [10], [0, 1, 2, 3, 4, 5, 6, 7], some 11⟩, ⟨[4], [], [11], [0, 1, 2, 3, 4, 5, 6, 7, 8], some 12⟩, ⟨[11], [], [12], [0, 1, 2, 3, 4, 5, 6, 7, 8, 9], some 2⟩] [12, 1] mixed hn hG h (by kernel_rfl) ?_ ?_
    · exact ⟨⟨rfl, fun β => (GOk.plain (op_move (opt 0 rfl)) rfl)⟩, ⟨rfl, fun β => (GOk.plain (op_bin (bin_pnn Tryd.underlying30) (opt 0 rfl) (opc (ec _))) rfl)⟩, ⟨rfl, fun β => (GOk.plain (op_move (opt 0 rfl)) rfl)⟩, ⟨rfl, fun β => (GOk.off_v (want := true) rfl rfl rfl rfl rfl)⟩, ⟨rfl, fun β => (GOk.off_v (want := true) rfl rfl rfl rfl rfl)⟩, ⟨rfl, fun β => (GOk.off_v (want := true) rfl rfl rfl rfl rfl)⟩, ⟨rfl, fun β => (GOk.off_v (want := true) rfl rfl rfl rfl rfl)⟩, ⟨rfl, fun β => (GOk.off_v (want := true) rfl rfl rfl rfl rfl)⟩, ⟨rfl, fun β => (GOk.off_v (want := true) rfl rfl rfl rfl rfl)⟩, ⟨rfl, fun β => (GOk.plain (op_pick_f rfl (opt 0 rfl) (opc (bc _))) rfl)⟩, ⟨rfl, fun β => (GOk.plain (op_assign (opt 0 rfl)) rfl)⟩, trivial⟩
    clear h
    intro β a w h
    change SatL c [.slot 2 (boolVP false), .res (Log_o (.pointer none) h_0_0 h_0_1 none)] a w at h
    clear β
    show Code.wp Tryd.prog _ _ a w
    refine wp_ret ?_
    obtain rfl := Option.some.inj hF
    exact ⟨.inl rfl, ret1 h Tryd.results16 (r_tmp 0 rfl) [1] [(Log_o (.pointer none) h_0_0 h_0_1 none)] rfl rfl rfl⟩
  | some s_0 =>
    change digest_Log_Clash.s s_0 = some r at hF
    unfold digest_Log_Clash.s at hF
    have hp := h.isp 1 rfl (fun Φ f w q => Log_lp Φ f w q)
    replace h := h.slotc 0 rfl (V' := lpVP p_0 0) (fun _ _ h => eq_lp h hp)
    replace h := h.sep (R := lb p_0 71 [one (eqVP h_0_0), one (eqVP h_0_1)]) (S := (RP.sep (mapR h_0_0 arrK (fun l => l.length = 32) (fun u y => RP.val (strVP y) u) s_0.f_inputs) (mapR h_0_1 strK (fun l => l.length ≤ mxl) (fun u y => RP.val (boolVP y) u) s_0.f_others))) 1 rfl
    replace h := h.sep (R := mapR h_0_0 arrK (fun l => l.length = 32) (fun u y => RP.val (strVP y) u) s_0.f_inputs) (S := (mapR h_0_1 strK (fun l => l.length ≤ mxl) (fun u y => RP.val (boolVP y) u) s_0.f_others)) 2 rfl
    replace h := h.sub [0, 1, 2, 3] (by rfl)
    change SatL c [.slot 0 (lpVP p_0 0), .res (lb p_0 71 [one (eqVP h_0_0), one (eqVP h_0_1)]), .res (mapR h_0_0 arrK (fun l => l.length = 32) (fun u y => RP.val (strVP y) u) s_0.f_inputs), .res (mapR h_0_1 strK (fun l => l.length ≤ mxl) (fun u y => RP.val (boolVP y) u) s_0.f_others)] a w at h
    refine wp_seq ?_
    refine region_do (n := 13) [.slot 2 100000 100000 (fun _ _ => (boolVP false))] [0] [⟨[], [], [4], [], some 2⟩] [0, 1, 2, 3] mixed hn hG h (by kernel_rfl) ?_ ?_
    · exact ⟨⟨rfl, fun β => (GOk.plain (op_assign (opc (bc _))) rfl)⟩, trivial⟩
    clear h
    intro β a w h
    change SatL c [.slot 0 (lpVP p_0 0), .res (lb p_0 71 [one (eqVP h_0_0), one (eqVP h_0_1)]), .res (mapR h_0_0 arrK (fun l => l.length = 32) (fun u y => RP.val (strVP y) u) s_0.f_inputs), .res (mapR h_0_1 strK (fun l => l.length ≤ mxl) (fun u y => RP.val (boolVP y) u) s_0.f_others)] a w at h
    clear β
    show Code.wp Tryd.prog _ _ a w
    refine wp_seq ?_
    obtain ⟨hv1, hF⟩ := ite_some hF
    refine region_do (n := 13) [.slot 3 100000 100000 (fun _ _ => (lpVP p_0 0)),
      .slot 4 100000 100000 (fun _ _ => (boolVP true)),
      .slot 5 100000 100000 (fun _ _ => (boolVP true)),
      .slot 6 100000 100000 (fun _ _ => (lpVP p_0 0)),
      .slot 7 100000 100000 (fun _ _ => (lpVP p_0 0)),
      .slot 8 100000 100000 (fun _ _ => (lpVP p_0 1)),
      .slot 9 100000 100000 (fun _ _ => (eqVP h_0_1)),
      .slot 10 100000 100000 (fun _ _ => (intVP .i64 (s_0.f_others.length : Int))),
      .slot 11 100000 100000 (fun _ _ => (boolVP (decide ((0 : Int) < (s_0.f_others.length : Int))))),
      .slot 12 100000 100000 (fun _ _ => (boolVP (decide ((0 : Int) < (s_0.f_others.length : Int))))),
      .slot 2 100000 100000 (fun _ _ => (boolVP (decide ((0 : Int) < (s_0.f_others.length : Int)))))] [0, 1, 2, 3, 4, 5, 6, 7, 8, 9, 10] [⟨[0], [], [4], [], some 3⟩, ⟨[4], [], [5], [0], some 4⟩, ⟨[5], [], [6], [0, 1], some 5⟩, ⟨[6, 0], [], [7], [0, 1, 2], some 6⟩, ⟨[6, 7], [], [8], [0, 1, 2, 3], some 7⟩, ⟨[6, 8], [], [9], [0, 1, 2, 3, 4], some 8⟩, ⟨[6, 9, 1], [], [10], [0, 1, 2, 3, 4, 5], some 9⟩, ⟨[6, 10, 3], [], [11], [0, 1, 2, 3, 4, 5, 6], some 10⟩, ⟨[6, 11], [], [12], [0, 1, 2, 3, 4, 5, 6, 7], some 11⟩, ⟨[6, 12], [], [13], [0, 1, 2, 3, 4, 5, 6, 7, 8], some 12⟩, ⟨[13], [], [14], [0, 1, 2, 3, 4, 5, 6, 7, 8, 9], some 2⟩] [14, 1, 2, 3] mixed hn hG h (by kernel_rfl) ?_ ?_
    · exact ⟨⟨rfl, fun β => (GOk.plain (op_move (opt 0 rfl)) rfl)⟩, ⟨rfl, fun β => (GOk.plain (op_bin (bin_pnn Tryd.underlying30) (lp_ptr (opt 0 rfl)) (opc (ec _))) rfl)⟩, ⟨rfl, fun β => (GOk.plain (op_move (opt 0 rfl)) rfl)⟩, ⟨rfl, fun β => (GOk.on_eq rfl rfl rfl rfl (op_move (opt 0 rfl)))⟩, ⟨rfl, fun β => (GOk.on_eq rfl rfl rfl rfl (op_nilCheck (opt 0 rfl) (ptr_lp _ _)))⟩, ⟨rfl, fun β => (GOk.on_eq rfl rfl rfl rfl (op_fieldAddr_lbm (p := p_0) (n := 1) 0 1 Tryd.underlying71 rfl Tryd.sizeOf69 (by decide) (opt 0 rfl) rfl))⟩, ⟨rfl, fun β => (GOk.on_eq rfl rfl rfl rfl (op_load_lb1 [one (eqVP h_0_0)] [] 1 Tryd.isAgg69 (opt 0 rfl) rfl rfl))⟩, ⟨rfl, fun β => (GOk.on_eq rfl rfl rfl rfl (op_len_map 1 Tryd.underlying69 (opt 0 rfl) rfl res_id hv1))⟩, ⟨rfl, fun β => (GOk.on_eq rfl rfl rfl rfl (op_bin bin_gtr (opt 0 rfl) (opc (ic (by decide)))))⟩, ⟨rfl, fun β => (GOk.plain (op_pick_t rfl (opt 0 rfl) (opt 1 rfl)) rfl)⟩, ⟨rfl, fun β => (GOk.plain (op_assign (opt 0 rfl)) rfl)⟩, trivial⟩
    clear h
    intro β a w h
    change SatL c [.slot 2 (boolVP (decide ((0 : Int) < (s_0.f_others.length : Int)))), .res (lb p_0 71 [one (eqVP h_0_0), one (eqVP h_0_1)]), .res (mapR h_0_0 arrK (fun l => l.length = 32) (fun u y => RP.val (strVP y) u) s_0.f_inputs), .res (mapR h_0_1 strK (fun l => l.length ≤ mxl) (fun u y => RP.val (boolVP y) u) s_0.f_others)] a w at h
    clear β
    show Code.wp Tryd.prog _ _ a w
    refine wp_ret ?_
    replace h := h.unsep 2 3 rfl rfl (by decide)
    replace h := h.unsep 1 2 rfl rfl (by decide)
    replace h := h.sub [0, 1] (by rfl)
    change SatL c [.slot 2 (boolVP (decide ((0 : Int) < (s_0.f_others.length : Int)))), .res (Log_o p_0 h_0_0 h_0_1 (some s_0))] a w at h
    obtain rfl := Option.some.inj hF
    exact ⟨.inl rfl, ret1 h Tryd.results16 (r_tmp 0 rfl) [1] [(Log_o p_0 h_0_0 h_0_1 (some s_0))] rfl rfl rfl⟩
theorem digest_Log_Clash_oke {p_0 : Value} {L_0 : Option O_Log} {r : Bool} (hF : digest_Log_Clash L_0 = some r) : CallOk Tryd.prog KG 16 [(eqVP p_0)] [Log_e p_0 L_0] (fun _ => [Log_e p_0 L_0]) (boolVP r) := CallOk.ex fun h_0_0 => CallOk.ex fun h_0_1 => digest_Log_Clash_ok hF
theorem digest_Log_Clash_oku {p_0 : Value} {h_0_0 : Value} {h_0_1 : Value} {s_0 : O_Log} {r : Bool} (hF : digest_Log_Clash (some s_0) = some r) : CallOk Tryd.prog KG 16 [(eqVP p_0)] [lb p_0 71 [one (eqVP h_0_0), one (eqVP h_0_1)], mapR h_0_0 arrK (fun l => l.length = 32) (fun u y => RP.val (strVP y) u) s_0.f_inputs, mapR h_0_1 strK (fun l => l.length ≤ mxl) (fun u y => RP.val (boolVP y) u) s_0.f_others] (fun _ => [lb p_0 71 [one (eqVP h_0_0), one (eqVP h_0_1)], mapR h_0_0 arrK (fun l => l.length = 32) (fun u y => RP.val (strVP y) u) s_0.f_inputs, mapR h_0_1 strK (fun l => l.length ≤ mxl) (fun u y => RP.val (boolVP y) u) s_0.f_others]) (boolVP r) := CallOk.split2 (digest_Log_Clash_ok hF)

def digest_Log_Of (L_0 : Option O_Log) (a_1 : Int) (a_2 : List (List UInt8)) : Option ((List UInt8) × (Option O_Log)) := ((digest_input a_1 a_2).bind fun r2 => ((sha_Sum [r2]).bind fun r3 => ((digest_Log_note L_0 r3 r2).bind fun r5 => some (r3, r5))))
theorem digest_Log_Of_ok {p_0 : Value} {L_0 : Option O_Log} {a_1 : Int} {a_2 : List (List UInt8)} {r : (List UInt8) × (Option O_Log)} (hF : digest_Log_Of L_0 a_1 a_2 = some r) : CallOk Tryd.prog KG 14 [(eqVP p_0), (intVP .u8 a_1), (slVP strC a_2)] [(Log_e p_0 L_0)] (fun _ => [Log_e p_0 r.2]) (aggVP [bytesCk 32 r.1]) := by
  refine CallOk.intro 20 Tryd.func14 rfl Tryd.ntmps14 (Nat.le_of_ble_eq_true rfl) ?_
  intro c a w hG hn h
  unfold digest_Log_Of at hF
  change SatL c [.slot 0 (eqVP p_0), .slot 1 (intVP .u8 a_1), .slot 2 (slVP strC a_2), .res (Log_e p_0 L_0)] a w at h
  refine wp_seq ?_
  refine region_do (n := 20) [.slot 6 0 100000 (fun v1_ _ => (lpVP v1_ 0)),
      .res 0 100000 (fun v1_ _ => (lb (v1_) 24 [bytesCk 32 (List.replicate 32 0)]))] [0, 0] [⟨[], [], [4, 5], [], some 6⟩] [0, 1, 2, 4, 3, 5] mixed hn hG h (by kernel_rfl) ?_ ?_
  · exact ⟨⟨rfl, fun β => (GOk.plain (op_alloc Tryd.zeroValue24 z24) rfl)⟩, trivial⟩
  clear h
  intro β a w h
  change SatL c [.slot 0 (eqVP p_0), .slot 1 (intVP .u8 a_1), .slot 2 (slVP strC a_2), .slot 6 (lpVP (β 0) 0), .res (Log_e p_0 L_0), .res (lb (β 0) 24 [bytesCk 32 (List.replicate 32 0)])] a w at h
  generalize β 0 = p1 at h
  clear β
  show Code.wp Tryd.prog _ _ a w
  refine wp_seq ?_
  obtain ⟨r2, hr2, hF⟩ := bind_some hF
  refine region_do (n := 20) [.slot 9 100000 100000 (fun _ _ => (intVP .u8 a_1)),
      .slot 10 100000 100000 (fun _ _ => (slVP strC a_2)),
      .slot 11 100000 100000 (fun _ _ => (strVP r2)),
      .slot 7 100000 100000 (fun _ _ => (strVP r2))] [0, 1, 2, 3] [⟨[1], [], [6], [], some 9⟩, ⟨[2], [], [7], [0], some 10⟩, ⟨[6, 7], [], [8], [0, 1], some 11⟩, ⟨[8], [], [9], [0, 1, 2], some 7⟩] [0, 3, 9, 4, 5] mixed hn hG h (by kernel_rfl) ?_ ?_
  · exact ⟨⟨rfl, fun β => (GOk.plain (op_move (opt 0 rfl)) rfl)⟩, ⟨rfl, fun β => (GOk.plain (op_move (opt 0 rfl)) rfl)⟩, ⟨rfl, fun β => (GOk.plain (op_call Tryd.call39 (digest_input_ok hr2) ⟨(opt 0 rfl), (opt 1 rfl), trivial⟩) rfl)⟩, ⟨rfl, fun β => (GOk.plain (op_assign (opt 0 rfl)) rfl)⟩, trivial⟩
  clear h
  intro β a w h
  change SatL c [.slot 0 (eqVP p_0), .slot 6 (lpVP p1 0), .slot 7 (strVP r2), .res (Log_e p_0 L_0), .res (lb p1 24 [bytesCk 32 (List.replicate 32 0)])] a w at h
  clear β
  show Code.wp Tryd.prog _ _ a w
  refine wp_seq ?_
  obtain ⟨r3, hr3, hF⟩ := bind_some hF
  refine region_do (n := 20) [.slot 12 100000 100000 (fun _ _ => (strVP r2)),
      .slot 13 100000 100000 (fun _ _ => (slVP strC [r2])),
      .slot 14 100000 100000 (fun _ _ => (aggVP [bytesCk 32 r3])),
      .slot 8 3 100000 (fun v1_ _ => (lpVP v1_ 0)),
      .res 3 100000 (fun v1_ _ => (lb (v1_) 24 [bytesCk 32 (List.replicate 32 0)])),
      .res 3 100000 (fun v1_ _ => (lb (v1_) 24 [bytesCk 32 r3]))] [0, 1, 2, 3, 3, 4] [⟨[2], [], [5], [], some 12⟩, ⟨[5], [], [6], [0], some 13⟩, ⟨[6], [], [7], [0, 1], some 14⟩, ⟨[], [], [8, 9], [0, 1, 2], some 8⟩, ⟨[8, 7], [9], [10], [0, 1, 2, 3], none⟩] [0, 1, 2, 8, 3, 4, 10] mixed hn hG h (by kernel_rfl) ?_ ?_
  · exact ⟨⟨rfl, fun β => (GOk.plain (op_move (opt 0 rfl)) rfl)⟩, ⟨rfl, fun β => (GOk.plain (op_lit (xs := [.tmp 12]) (ys := [r2]) _ rfl Tryd.underlying22 Tryd.sizeOf9 Tryd.zeroValue9 rfl rfl (by decide) (by decide) ⟨⟨_, (opt 0 rfl), (cells_one (one_str _))⟩, trivial⟩ lens_strC) rfl)⟩, ⟨rfl, fun β => (GOk.plain (op_call Tryd.call38 (sha_Sum_ok hr3) ⟨(opt 0 rfl), trivial⟩) rfl)⟩, ⟨rfl, fun β => (GOk.plain (op_alloc Tryd.zeroValue24 z24) rfl)⟩, ⟨rfl, fun β => (GOk.plain (op_store_lb [] [bytesCk 32 (List.replicate 32 0)] [] [bytesCk 32 r3] Tryd.sizeOf24 (opt 0 rfl) (opt 1 rfl) (cells_agg _) rfl rfl rfl) rfl)⟩, trivial⟩
  clear h
  intro β a w h
  change SatL c [.slot 0 (eqVP p_0), .slot 6 (lpVP p1 0), .slot 7 (strVP r2), .slot 8 (lpVP (β 3) 0), .res (Log_e p_0 L_0), .res (lb p1 24 [bytesCk 32 (List.replicate 32 0)]), .res (lb (β 3) 24 [bytesCk 32 r3])] a w at h
  generalize β 3 = p4 at h
  clear β
  show Code.wp Tryd.prog _ _ a w
  refine wp_seq ?_
  obtain ⟨r5, hr5, hF⟩ := bind_some hF
  refine region_do (n := 20) [.slot 15 100000 100000 (fun _ _ => (eqVP p_0)),
      .slot 16 100000 100000 (fun _ _ => (aggVP [bytesCk 32 r3])),
      .slot 17 100000 100000 (fun _ _ => (strVP r2)),
      .slot 18 100000 100000 (fun _ _ => (tupVP [])),
      .res 100000 100000 (fun _ _ => (Log_e p_0 r5))] [0, 1, 2, 3, 3] [⟨[0], [], [7], [], some 15⟩, ⟨[3, 6], [], [8], [0], some 16⟩, ⟨[2], [], [9], [0, 1], some 17⟩, ⟨[7, 8, 9], [4], [10, 11], [0, 1, 2], some 18⟩] [1, 3, 5, 6, 11] mixed hn hG h (by kernel_rfl) ?_ ?_
  · exact ⟨⟨rfl, fun β => (GOk.plain (op_move (opt 0 rfl)) rfl)⟩, ⟨rfl, fun β => (GOk.plain (op_load_lb [] [bytesCk 32 r3] [] 1 Tryd.isAgg24 Tryd.sizeOf24 (opt 0 rfl) rfl rfl rfl) rfl)⟩, ⟨rfl, fun β => (GOk.plain (op_move (opt 0 rfl)) rfl)⟩, ⟨rfl, fun β => (GOk.plain (op_call Tryd.call40 (digest_Log_note_ok hr5) ⟨(opt 0 rfl), (opt 1 rfl), (opt 2 rfl), trivial⟩) rfl)⟩, trivial⟩
  clear h
  intro β a w h
  change SatL c [.slot 6 (lpVP p1 0), .slot 8 (lpVP p4 0), .res (lb p1 24 [bytesCk 32 (List.replicate 32 0)]), .res (lb p4 24 [bytesCk 32 r3]), .res (Log_e p_0 r5)] a w at h
  clear β
  show Code.wp Tryd.prog _ _ a w
  refine wp_seq ?_
  refine region_do (n := 20) [.slot 19 100000 100000 (fun _ _ => (aggVP [bytesCk 32 r3])),
      .res 100000 100000 (fun _ _ => (lb p1 24 [bytesCk 32 r3]))] [0, 1] [⟨[1, 3], [], [5], [], some 19⟩, ⟨[0, 5], [2], [6], [0], none⟩] [0, 6, 4] mixed hn hG h (by kernel_rfl) ?_ ?_
  · exact ⟨⟨rfl, fun β => (GOk.plain (op_load_lb [] [bytesCk 32 r3] [] 1 Tryd.isAgg24 Tryd.sizeOf24 (opt 0 rfl) rfl rfl rfl) rfl)⟩, ⟨rfl, fun β => (GOk.plain (op_store_lb [] [bytesCk 32 (List.replicate 32 0)] [] [bytesCk 32 r3] Tryd.sizeOf24 (opt 0 rfl) (opt 1 rfl) (cells_agg _) rfl rfl rfl) rfl)⟩, trivial⟩
  clear h
  intro β a w h
  change SatL c [.slot 6 (lpVP p1 0), .res (lb p1 24 [bytesCk 32 r3]), .res (Log_e p_0 r5)] a w at h
  clear β
  show Code.wp Tryd.prog _ _ a w
  refine wp_ret ?_
  obtain rfl := Option.some.inj hF
  exact ⟨.inl rfl, ret1 h Tryd.results14 (r_cell 0 1 rfl rfl Tryd.isAgg24 Tryd.sizeOf24 rfl) [2] [(Log_e p_0 r5)] rfl rfl rfl⟩

def law04_awake.j1 (x7 : Bool) : Option Bool := some x7
def law04_awake : Option Bool := ((digest_New).bind fun r1 => ((digest_Log_Of (some r1) 1 []).bind fun r3 => ((sha_Sum [[1]]).bind fun r4 => (if (decide (r3.1 = r4)) = true then ((digest_Log_Count r3.2).bind fun r5 => (if (decide (r5 = (1 : Int))) = true then ((digest_Log_Clash r3.2).bind fun r6 => law04_awake.j1 (!r6)) else law04_awake.j1 false)) else law04_awake.j1 false))))
theorem law04_awake_ok {r : Bool} (hF : law04_awake = some r) : CallOk Tryd.prog KG 11 [] [] (fun _ => []) (boolVP r) := by
  refine CallOk.intro 18 Tryd.func11 rfl Tryd.ntmps11 (Nat.le_of_ble_eq_true rfl) ?_
  intro c a w hG hn h
  unfold law04_awake at hF
  change SatL c [] a w at h
  refine wp_seq ?_
  refine region_do (n := 18) [.slot 0 100000 100000 (fun _ _ => (boolVP false))] [0] [⟨[], [], [0], [], some 0⟩] [] mixed hn hG h (by kernel_rfl) ?_ ?_
  · exact ⟨⟨rfl, fun β => (GOk.plain (op_assign (opc (bc _))) rfl)⟩, trivial⟩
  clear h
  intro β a w h
  change SatL c [] a w at h
  clear β
  show Code.wp Tryd.prog _ _ a w
  refine wp_seq ?_
  obtain ⟨r1, hr1, hF⟩ := bind_some hF
  refine region_do (n := 18) [.slot 2 0 100000 (fun v1_ _ => (eqVP v1_)),
      .res 0 100000 (fun v1_ _ => (Log_e (v1_) (some r1))),
      .slot 1 0 100000 (fun v1_ _ => (eqVP v1_))] [0, 0, 1] [⟨[], [], [0, 1], [], some 2⟩, ⟨[0], [], [2], [0], some 1⟩] [2, 1] mixed hn hG h (by kernel_rfl) ?_ ?_
  · exact ⟨⟨rfl, fun β => (GOk.plain (op_callv Tryd.call13 (digest_New_ok hr1) trivial) rfl)⟩, ⟨rfl, fun β => (GOk.plain (op_assign (V := (eqVP (β 0))) (opt 0 rfl)) rfl)⟩, trivial⟩
  clear h
  intro β a w h
  change SatL c [.slot 1 (eqVP (β 0)), .res (Log_e (β 0) (some r1))] a w at h
  generalize β 0 = p2 at h
  clear β
  show Code.wp Tryd.prog _ _ a w
  refine wp_seq ?_
  obtain ⟨r3, hr3, hF⟩ := bind_some hF
  obtain ⟨r4, hr4, hF⟩ := bind_some hF
  refine wp_cut (fun a w => ∃ (x7 : Bool), law04_awake.j1 x7 = some r ∧ SatL c [.slot 0 (boolVP x7), .res (Log_e p2 r3.2)] a w) ?_ ?_
  · rcases Bool.eq_false_or_eq_true (decide (r3.1 = r4)) with hb8 | hb8
    · replace hF := tt_of hb8 hF
      obtain ⟨r5, hr5, hF⟩ := bind_some hF
      rcases Bool.eq_false_or_eq_true (decide (r5 = (1 : Int))) with hb9 | hb9
      · replace hF := tt_of hb9 hF
        obtain ⟨r6, hr6, hF⟩ := bind_some hF
        refine region_do (n := 18) [.slot 3 100000 100000 (fun _ _ => (eqVP p2)),
      .slot 4 100000 100000 (fun _ _ => (aggVP [bytesCk 32 r3.1])),
      .res 100000 100000 (fun _ _ => (Log_e p2 r3.2)),
      .slot 5 100000 100000 (fun _ _ => (slVP strC [[1]])),
      .slot 6 100000 100000 (fun _ _ => (aggVP [bytesCk 32 r4])),
      .slot 7 100000 100000 (fun _ _ => (boolVP (decide (r3.1 = r4)))),
      .slot 8 100000 100000 (fun _ _ => (boolVP (decide (r3.1 = r4)))),
      .slot 9 100000 100000 (fun _ _ => (eqVP p2)),
      .slot 10 100000 100000 (fun _ _ => (intVP .i64 r5)),
      .res 100000 100000 (fun _ _ => (Log_e p2 r3.2)),
      .slot 11 100000 100000 (fun _ _ => (boolVP (decide (r5 = (1 : Int))))),
      .slot 12 100000 100000 (fun _ _ => (boolVP (decide (r5 = (1 : Int))))),
      .slot 13 100000 100000 (fun _ _ => (boolVP (decide (r5 = (1 : Int))))),
      .slot 14 100000 100000 (fun _ _ => (eqVP p2)),
      .slot 15 100000 100000 (fun _ _ => (boolVP r6)),
      .res 100000 100000 (fun _ _ => (Log_e p2 r3.2)),
      .slot 16 100000 100000 (fun _ _ => (boolVP (!r6))),
      .slot 17 100000 100000 (fun _ _ => (boolVP (!r6))),
      .slot 0 100000 100000 (fun _ _ => (boolVP (!r6)))] [0, 1, 1, 2, 3, 4, 5, 6, 7, 7, 8, 9, 10, 11, 12, 12, 13, 14, 15] [⟨[0], [], [2], [], some 3⟩, ⟨[2], [1], [3, 4], [0], some 4⟩, ⟨[], [], [5], [0, 1], some 5⟩, ⟨[5], [], [6], [0, 1, 2], some 6⟩, ⟨[3, 6], [], [7], [0, 1, 2, 3], some 7⟩, ⟨[7], [], [8], [0, 1, 2, 3, 4], some 8⟩, ⟨[8, 0], [], [9], [0, 1, 2, 3, 4, 5], some 9⟩, ⟨[8, 9], [4], [10, 11], [0, 1, 2, 3, 4, 5, 6], some 10⟩, ⟨[8, 10], [], [12], [0, 1, 2, 3, 4, 5, 6, 7], some 11⟩, ⟨[8, 12], [], [13], [0, 1, 2, 3, 4, 5, 6, 7, 8], some 12⟩, ⟨[13], [], [14], [0, 1, 2, 3, 4, 5, 6, 7, 8, 9], some 13⟩, ⟨[14, 0], [], [15], [0, 1, 2, 3, 4, 5, 6, 7, 8, 9, 10], some 14⟩, ⟨[14, 15], [11], [16, 17], [0, 1, 2, 3, 4, 5, 6, 7, 8, 9, 10, 11], some 15⟩, ⟨[14, 16], [], [18], [0, 1, 2, 3, 4, 5, 6, 7, 8, 9, 10, 11, 12], some 16⟩, ⟨[14, 18], [], [19], [0, 1, 2, 3, 4, 5, 6, 7, 8, 9, 10, 11, 12, 13], some 17⟩, ⟨[19], [], [20], [0, 1, 2, 3, 4, 5, 6, 7, 8, 9, 10, 11, 12, 13, 14], some 0⟩] [20, 17] mixed hn hG h (by kernel_rfl) ?_ ?_
        · exact ⟨⟨rfl, fun β => (GOk.plain (op_move (opt 0 rfl)) rfl)⟩, ⟨rfl, fun β => (GOk.plain (op_call Tryd.call14 (digest_Log_Of_ok hr3) ⟨(opt 0 rfl), (opc (ic (by decide))), nilc_sl, trivial⟩) rfl)⟩, ⟨rfl, fun β => (GOk.plain (op_lit (xs := [.const (.string ⟨#[1]⟩)]) (ys := [[1]]) _ rfl Tryd.underlying22 Tryd.sizeOf9 Tryd.zeroValue9 rfl rfl (by decide) (by decide) ⟨⟨_, (opc (sc _ (by decide))), (cells_one (one_str _))⟩, trivial⟩ lens_strC) rfl)⟩, ⟨rfl, fun β => (GOk.plain (op_call Tryd.call38 (sha_Sum_ok hr4) ⟨(opt 0 rfl), trivial⟩) rfl)⟩, ⟨rfl, fun β => (GOk.plain (op_bin (bin_aeql Tryd.underlying24 Tryd.underlying5 Tryd.type5 Tryd.sizeOf5 Tryd.isAgg5 Tryd.eqGuardType24) (opt 0 rfl) (opt 1 rfl)) rfl)⟩, ⟨rfl, fun β => (GOk.plain (op_move (opt 0 rfl)) rfl)⟩, ⟨rfl, fun β => (GOk.on_eq hb8 rfl rfl rfl (op_move (opt 0 rfl)))⟩, ⟨rfl, fun β => (GOk.on_eq hb8 rfl rfl rfl (op_call Tryd.call15 (digest_Log_Count_oke hr5) ⟨(opt 0 rfl), trivial⟩))⟩, ⟨rfl, fun β => (GOk.on_eq hb8 rfl rfl rfl (op_bin bin_eql (opt 0 rfl) (opc (ic (by decide)))))⟩, ⟨rfl, fun β => (GOk.plain (op_pick_t hb8 (opt 0 rfl) (opt 1 rfl)) rfl)⟩, ⟨rfl, fun β => (GOk.plain (op_move (opt 0 rfl)) rfl)⟩, ⟨rfl, fun β => (GOk.on_eq hb9 rfl rfl rfl (op_move (opt 0 rfl)))⟩, ⟨rfl, fun β => (GOk.on_eq hb9 rfl rfl rfl (op_call Tryd.call16 (digest_Log_Clash_oke hr6) ⟨(opt 0 rfl), trivial⟩))⟩, ⟨rfl, fun β => (GOk.on_eq hb9 rfl rfl rfl (op_un (un_not _) (opt 0 rfl)))⟩, ⟨rfl, fun β => (GOk.plain (op_pick_t hb9 (opt 0 rfl) (opt 1 rfl)) rfl)⟩, ⟨rfl, fun β => (GOk.plain (op_assign (opt 0 rfl)) rfl)⟩, trivial⟩
        clear h
        intro β a w h
        change SatL c [.slot 0 (boolVP (!r6)), .res (Log_e p2 r3.2)] a w at h
        clear β
        exact ⟨!r6, hF, h.sub [0, 1] (by rfl)⟩
      · replace hF := ff_of hb9 hF
        refine region_do (n := 18) [.slot 3 100000 100000 (fun _ _ => (eqVP p2)),
      .slot 4 100000 100000 (fun _ _ => (aggVP [bytesCk 32 r3.1])),
      .res 100000 100000 (fun _ _ => (Log_e p2 r3.2)),
      .slot 5 100000 100000 (fun _ _ => (slVP strC [[1]])),
      .slot 6 100000 100000 (fun _ _ => (aggVP [bytesCk 32 r4])),
      .slot 7 100000 100000 (fun _ _ => (boolVP (decide (r3.1 = r4)))),
      .slot 8 100000 100000 (fun _ _ => (boolVP (decide (r3.1 = r4)))),
      .slot 9 100000 100000 (fun _ _ => (eqVP p2)),
      .slot 10 100000 100000 (fun _ _ => (intVP .i64 r5)),
      .res 100000 100000 (fun _ _ => (Log_e p2 r3.2)),
      .slot 11 100000 100000 (fun _ _ => (boolVP (decide (r5 = (1 : Int))))),
      .slot 12 100000 100000 (fun _ _ => (boolVP (decide (r5 = (1 : Int))))),
      .slot 13 100000 100000 (fun _ _ => (boolVP (decide (r5 = (1 : Int))))),
      .slot 14 100000 100000 (fun _ _ => (eqVP undef)),
      .slot 15 100000 100000 (fun _ _ => (eqVP undef)),
      .slot 16 100000 100000 (fun _ _ => (eqVP undef)),
      .slot 17 100000 100000 (fun _ _ => (boolVP false)),
      .slot 0 100000 100000 (fun _ _ => (boolVP false))] [0, 1, 1, 2, 3, 4, 5, 6, 7, 7, 8, 9, 10, 11, 12, 13, 14, 15] [⟨[0], [], [2], [], some 3⟩, ⟨[2], [1], [3, 4], [0], some 4⟩, ⟨[], [], [5], [0, 1], some 5⟩, ⟨[5], [], [6], [0, 1, 2], some 6⟩, ⟨[3, 6], [], [7], [0, 1, 2, 3], some 7⟩, ⟨[7], [], [8], [0, 1, 2, 3, 4], some 8⟩, ⟨[8, 0], [], [9], [0, 1, 2, 3, 4, 5], some 9⟩, ⟨[8, 9], [4], [10, 11], [0, 1, 2, 3, 4, 5, 6], some 10⟩, ⟨[8, 10], [], [12], [0, 1, 2, 3, 4, 5, 6, 7], some 11⟩, ⟨[8, 12], [], [13], [0, 1, 2, 3, 4, 5, 6, 7, 8], some 12⟩, ⟨[13], [], [14], [0, 1, 2, 3, 4, 5, 6, 7, 8, 9], some 13⟩, ⟨[14], [], [15], [0, 1, 2, 3, 4, 5, 6, 7, 8, 9, 10], some 14⟩, ⟨[14], [], [16], [0, 1, 2, 3, 4, 5, 6, 7, 8, 9, 10, 11], some 15⟩, ⟨[14], [], [17], [0, 1, 2, 3, 4, 5, 6, 7, 8, 9, 10, 11, 12], some 16⟩, ⟨[14], [], [18], [0, 1, 2, 3, 4, 5, 6, 7, 8, 9, 10, 11, 12, 13], some 17⟩, ⟨[18], [], [19], [0, 1, 2, 3, 4, 5, 6, 7, 8, 9, 10, 11, 12, 13, 14], some 0⟩] [19, 11] mixed hn hG h (by kernel_rfl) ?_ ?_
        · exact ⟨⟨rfl, fun β => (GOk.plain (op_move (opt 0 rfl)) rfl)⟩, ⟨rfl, fun β => (GOk.plain (op_call Tryd.call14 (digest_Log_Of_ok hr3) ⟨(opt 0 rfl), (opc (ic (by decide))), nilc_sl, trivial⟩) rfl)⟩, ⟨rfl, fun β => (GOk.plain (op_lit (xs := [.const (.string ⟨#[1]⟩)]) (ys := [[1]]) _ rfl Tryd.underlying22 Tryd.sizeOf9 Tryd.zeroValue9 rfl rfl (by decide) (by decide) ⟨⟨_, (opc (sc _ (by decide))), (cells_one (one_str _))⟩, trivial⟩ lens_strC) rfl)⟩, ⟨rfl, fun β => (GOk.plain (op_call Tryd.call38 (sha_Sum_ok hr4) ⟨(opt 0 rfl), trivial⟩) rfl)⟩, ⟨rfl, fun β => (GOk.plain (op_bin (bin_aeql Tryd.underlying24 Tryd.underlying5 Tryd.type5 Tryd.sizeOf5 Tryd.isAgg5 Tryd.eqGuardType24) (opt 0 rfl) (opt 1 rfl)) rfl)⟩, ⟨rfl, fun β => (GOk.plain (op_move (opt 0 rfl)) rfl)⟩, ⟨rfl, fun β => (GOk.on_eq hb8 rfl rfl rfl (op_move (opt 0 rfl)))⟩, ⟨rfl, fun β => (GOk.on_eq hb8 rfl rfl rfl (op_call Tryd.call15 (digest_Log_Count_oke hr5) ⟨(opt 0 rfl), trivial⟩))⟩, ⟨rfl, fun β => (GOk.on_eq hb8 rfl rfl rfl (op_bin bin_eql (opt 0 rfl) (opc (ic (by decide)))))⟩, ⟨rfl, fun β => (GOk.plain (op_pick_t hb8 (opt 0 rfl) (opt 1 rfl)) rfl)⟩, ⟨rfl, fun β => (GOk.plain (op_move (opt 0 rfl)) rfl)⟩, ⟨rfl, fun β => (GOk.off_v (want := true) hb9 rfl rfl rfl rfl)⟩, ⟨rfl, fun β => (GOk.off_v (want := true) hb9 rfl rfl rfl rfl)⟩, ⟨rfl, fun β => (GOk.off_v (want := true) hb9 rfl rfl rfl rfl)⟩, ⟨rfl, fun β => (GOk.plain (op_pick_f hb9 (opt 0 rfl) (opc (bc _))) rfl)⟩, ⟨rfl, fun β => (GOk.plain (op_assign (opt 0 rfl)) rfl)⟩, trivial⟩
        clear h
        intro β a w h
        change SatL c [.slot 0 (boolVP false), .res (Log_e p2 r3.2)] a w at h
        clear β
        exact ⟨false, hF, h.sub [0, 1] (by rfl)⟩
    · replace hF := ff_of hb8 hF
      refine region_do (n := 18) [.slot 3 100000 100000 (fun _ _ => (eqVP p2)),
      .slot 4 100000 100000 (fun _ _ => (aggVP [bytesCk 32 r3.1])),
      .res 100000 100000 (fun _ _ => (Log_e p2 r3.2)),
      .slot 5 100000 100000 (fun _ _ => (slVP strC [[1]])),
      .slot 6 100000 100000 (fun _ _ => (aggVP [bytesCk 32 r4])),
      .slot 7 100000 100000 (fun _ _ => (boolVP (decide (r3.1 = r4)))),
      .slot 8 100000 100000 (fun _ _ => (boolVP (decide (r3.1 = r4)))),
      .slot 9 100000 100000 (fun _ _ => (eqVP undef)),
      .slot 10 100000 100000 (fun _ _ => (eqVP undef)),
      .slot 11 100000 100000 (fun _ _ => (eqVP undef)),
      .slot 12 100000 100000 (fun _ _ => (boolVP false)),
      .slot 13 100000 100000 (fun _ _ => (boolVP false)),
      .slot 14 100000 100000 (fun _ _ => (eqVP undef)),
      .slot 15 100000 100000 (fun _ _ => (eqVP undef)),
      .slot 16 100000 100000 (fun _ _ => (eqVP undef)),
      .slot 17 100000 100000 (fun _ _ => (boolVP false)),
      .slot 0 100000 100000 (fun _ _ => (boolVP false))] [0, 1, 1, 2, 3, 4, 5, 6, 7, 8, 9, 10, 11, 12, 13, 14, 15] [⟨[0], [], [2], [], some 3⟩, ⟨[2], [1], [3, 4], [0], some 4⟩, ⟨[], [], [5], [0, 1], some 5⟩, ⟨[5], [], [6], [0, 1, 2], some 6⟩, ⟨[3, 6], [], [7], [0, 1, 2, 3], some 7⟩, ⟨[7], [], [8], [0, 1, 2, 3, 4], some 8⟩, ⟨[8], [], [9], [0, 1, 2, 3, 4, 5], some 9⟩, ⟨[8], [], [10], [0, 1, 2, 3, 4, 5, 6], some 10⟩, ⟨[8], [], [11], [0, 1, 2, 3, 4, 5, 6, 7], some 11⟩, ⟨[8], [], [12], [0, 1, 2, 3, 4, 5, 6, 7, 8], some 12⟩, ⟨[12], [], [13], [0, 1, 2, 3, 4, 5, 6, 7, 8, 9], some 13⟩, ⟨[13], [], [14], [0, 1, 2, 3, 4, 5, 6, 7, 8, 9, 10], some 14⟩, ⟨[13], [], [15], [0, 1, 2, 3, 4, 5, 6, 7, 8, 9, 10, 11], some 15⟩, ⟨[13], [], [16], [0, 1, 2, 3, 4, 5, 6, 7, 8, 9, 10, 11, 12], some 16⟩, ⟨[13], [], [17], [0, 1, 2, 3, 4, 5, 6, 7, 8, 9, 10, 11, 12, 13], some 17⟩, ⟨[17], [], [18], [0, 1, 2, 3, 4, 5, 6, 7, 8, 9, 10, 11, 12, 13, 14], some 0⟩] [18, 4] mixed hn hG h (by kernel_rfl) ?_ ?_
      · exact ⟨⟨rfl, fun β => (GOk.plain (op_move (opt 0 rfl)) rfl)⟩, ⟨rfl, fun β => (GOk.plain (op_call Tryd.call14 (digest_Log_Of_ok hr3) ⟨(opt 0 rfl), (opc (ic (by decide))), nilc_sl, trivial⟩) rfl)⟩, ⟨rfl, fun β => (GOk.plain (op_lit (xs := [.const (.string ⟨#[1]⟩)]) (ys := [[1]]) _ rfl Tryd.underlying22 Tryd.sizeOf9 Tryd.zeroValue9 rfl rfl (by decide) (by decide) ⟨⟨_, (opc (sc _ (by decide))), (cells_one (one_str _))⟩, trivial⟩ lens_strC) rfl)⟩, ⟨rfl, fun β => (GOk.plain (op_call Tryd.call38 (sha_Sum_ok hr4) ⟨(opt 0 rfl), trivial⟩) rfl)⟩, ⟨rfl, fun β => (GOk.plain (op_bin (bin_aeql Tryd.underlying24 Tryd.underlying5 Tryd.type5 Tryd.sizeOf5 Tryd.isAgg5 Tryd.eqGuardType24) (opt 0 rfl) (opt 1 rfl)) rfl)⟩, ⟨rfl, fun β => (GOk.plain (op_move (opt 0 rfl)) rfl)⟩, ⟨rfl, fun β => (GOk.off_v (want := true) hb8 rfl rfl rfl rfl)⟩, ⟨rfl, fun β => (GOk.off_v (want := true) hb8 rfl rfl rfl rfl)⟩, ⟨rfl, fun β => (GOk.off_v (want := true) hb8 rfl rfl rfl rfl)⟩, ⟨rfl, fun β => (GOk.plain (op_pick_f hb8 (opt 0 rfl) (opc (bc _))) rfl)⟩, ⟨rfl, fun β => (GOk.plain (op_move (opt 0 rfl)) rfl)⟩, ⟨rfl, fun β => (GOk.off_v (want := true) rfl rfl rfl rfl rfl)⟩, ⟨rfl, fun β => (GOk.off_v (want := true) rfl rfl rfl rfl rfl)⟩, ⟨rfl, fun β => (GOk.off_v (want := true) rfl rfl rfl rfl rfl)⟩, ⟨rfl, fun β => (GOk.plain (op_pick_f rfl (opt 0 rfl) (opc (bc _))) rfl)⟩, ⟨rfl, fun β => (GOk.plain (op_assign (opt 0 rfl)) rfl)⟩, trivial⟩
      clear h
      intro β a w h
      change SatL c [.slot 0 (boolVP false), .res (Log_e p2 r3.2)] a w at h
      clear β
      exact ⟨false, hF, h.sub [0, 1] (by rfl)⟩
  · clear h hF
    rintro a w ⟨x7, hF, h⟩
    unfold law04_awake.j1 at hF
    show Code.wp Tryd.prog _ _ a w
    refine wp_ret ?_
    obtain rfl := Option.some.inj hF
    exact ⟨.inl rfl, ret1 h Tryd.results11 (r_tmp 0 rfl) [] [] rfl rfl rfl⟩

def law04_light.b2 (a_0 : List (S_law04_Ask)) (x14 : Int) (x37 : Int) : Option (Flow Bool Int) := (if (decide (x37 < (((a_0.getD x14.toNat default).f_Parts).length : Int))) = true then (if (0 : Int) ≤ x37 ∧ x37 < ((a_0.getD x14.toNat default).f_Parts).length then (if (decide ((1000 : Int) < ((((a_0.getD x14.toNat default).f_Parts).getD x37.toNat default).length : Int))) = true then some (.ret false) else some (.cont (IntKind.wrap .i64 (x37 + 1)))) else none) else some (.brk x37))
def law04_light.j1 (a_0 : List (S_law04_Ask)) (x14 : Int) (x32 : Bool) : Option (Flow Bool Int) := (if x32 = true then some (.ret false) else ((loopN (fun s : Int => law04_light.b2 a_0 x14 s) (((((a_0.getD x14.toNat default).f_Parts).length : Int) - 0 : Int).toNat + 2) 0).bind fun cr => match cr with | .ret r => some (.ret r) | .next y49 => some (.cont (IntKind.wrap .i64 (x14 + 1)))))
def law04_light.b1 (a_0 : List (S_law04_Ask)) (x14 : Int) : Option (Flow Bool Int) := (if (decide (x14 < (a_0.length : Int))) = true then (if (0 : Int) ≤ x14 ∧ x14 < a_0.length then (if (decide ((40 : Int) < (a_0.length : Int))) = true then law04_light.j1 a_0 x14 true else law04_light.j1 a_0 x14 (decide ((20 : Int) < (((a_0.getD x14.toNat default).f_Parts).length : Int)))) else none) else some (.brk x14))
def law04_light (a_0 : List (S_law04_Ask)) : Option Bool := ((loopN (fun s : Int => law04_light.b1 a_0 s) (((a_0.length : Int) - 0 : Int).toNat + 2) 0).bind fun cr => match cr with | .ret r => some r | .next y55 => some true)
theorem law04_light_ok {a_0 : List (S_law04_Ask)} {r : Bool} (hF : law04_light a_0 = some r) : CallOk Tryd.prog KG 12 [(slVP S_law04_Ask.ck a_0)] [] (fun _ => []) (boolVP r) := by
  refine CallOk.intro 34 Tryd.func12 rfl Tryd.ntmps12 (Nat.le_of_ble_eq_true rfl) ?_
  intro c a w hG hn h
  unfold law04_light at hF
  change SatL c [.slot 0 (slVP S_law04_Ask.ck a_0)] a w at h
  refine wp_seq ?_
  refine region_do (n := 34) [.slot 2 100000 100000 (fun _ _ => (boolVP false))] [0] [⟨[], [], [1], [], some 2⟩] [0] mixed hn hG h (by kernel_rfl) ?_ ?_
  · exact ⟨⟨rfl, fun β => (GOk.plain (op_assign (opc (bc _))) rfl)⟩, trivial⟩
  clear h
  intro β a w h
  change SatL c [.slot 0 (slVP S_law04_Ask.ck a_0)] a w at h
  clear β
  show Code.wp Tryd.prog _ _ a w
  refine wp_seq ?_
  refine wp_seq ?_
  refine region_do (n := 34) [.slot 7 100000 100000 (fun _ _ => (slVP S_law04_Ask.ck a_0)),
      .slot 8 100000 100000 (fun _ _ => (intVP .i64 (a_0.length : Int))),
      .slot 9 100000 100000 (fun _ _ => (intVP .i64 0))] [0, 1, 2] [⟨[0], [], [1], [], some 7⟩, ⟨[1], [], [2], [0], some 8⟩, ⟨[], [], [3], [0, 1], some 9⟩] [0, 1, 2, 3] mixed hn hG h (by kernel_rfl) ?_ ?_
  · exact ⟨⟨rfl, fun β => (GOk.plain (op_move (opt 0 rfl)) rfl)⟩, ⟨rfl, fun β => (GOk.plain (op_len_sl Tryd.underlying29 (opt 0 rfl)) rfl)⟩, ⟨rfl, fun β => (GOk.plain (op_move (opc (ic (by decide)))) rfl)⟩, trivial⟩
  clear h
  intro β a w h
  change SatL c [.slot 0 (slVP S_law04_Ask.ck a_0), .slot 7 (slVP S_law04_Ask.ck a_0), .slot 8 (intVP .i64 (a_0.length : Int)), .slot 9 (intVP .i64 0)] a w at h
  clear β
  show Code.wp Tryd.prog _ _ a w
  refine wp_block ?_
  obtain ⟨cr51, hl52, hF⟩ := bind_some hF
  refine wp_mono (wp_loopN (R := Bool) (S := Int) (fun s a w => SatL c [.slot 0 (slVP S_law04_Ask.ck a_0), .slot 7 (slVP S_law04_Ask.ck a_0), .slot 8 (intVP .i64 (a_0.length : Int)), .slot 9 (intVP .i64 s)] a w) (fun res e a w => match res with | .next s => e = .exit 0 ∧ SatL c [] a w | .ret r => e = .ret ∧ RetOk Tryd.prog Tryd.f12 c (boolVP r) (fun _ => []) a w) ?_ _ 0 _ _ _ (h.sub [0, 1, 2, 3] (by rfl)) hl52) ?_
  · clear hl52 hF h
    intro x14 a w o h hF
    change law04_light.b1 a_0 x14 = some o at hF
    unfold law04_light.b1 at hF
    change SatL c [.slot 0 (slVP S_law04_Ask.ck a_0), .slot 7 (slVP S_law04_Ask.ck a_0), .slot 8 (intVP .i64 (a_0.length : Int)), .slot 9 (intVP .i64 x14)] a w at h
    refine wp_seq ?_
    refine region_do (n := 34) [.slot 10 100000 100000 (fun _ _ => (boolVP (decide (x14 < (a_0.length : Int)))))] [0] [⟨[3, 2], [], [4], [], some 10⟩] [0, 1, 2, 3, 4] mixed hn hG h (by kernel_rfl) ?_ ?_
    · exact ⟨⟨rfl, fun β => (GOk.plain (op_bin bin_lss (opt 0 rfl) (opt 1 rfl)) rfl)⟩, trivial⟩
    clear h
    intro β a w h
    change SatL c [.slot 0 (slVP S_law04_Ask.ck a_0), .slot 7 (slVP S_law04_Ask.ck a_0), .slot 8 (intVP .i64 (a_0.length : Int)), .slot 9 (intVP .i64 x14), .slot 10 (boolVP (decide (x14 < (a_0.length : Int))))] a w at h
    clear β
    show Code.wp Tryd.prog _ _ a w
    refine wp_seq ?_
    refine cond_L h 4 rfl (fun hb29 => ?_) (fun hb29 => ?_)
    · replace hF := tt_of hb29 hF
      replace h := h.sub [0, 1, 2, 3] (by rfl)
      change SatL c [.slot 0 (slVP S_law04_Ask.ck a_0), .slot 7 (slVP S_law04_Ask.ck a_0), .slot 8 (intVP .i64 (a_0.length : Int)), .slot 9 (intVP .i64 x14)] a w at h
      refine wp_skip ?_
      show Code.wp Tryd.prog _ _ a w
      refine wp_seq ?_
      refine wp_block ?_
      refine wp_seq ?_
      obtain ⟨hv30, hF⟩ := ite_some hF
      refine region_do (n := 34) [.slot 11 100000 100000 (fun _ _ => (ppVP [one (intVP .u8 ((a_0.getD x14.toNat default).f_Domain)), one (slVP strC ((a_0.getD x14.toNat default).f_Parts)), one (boolVP ((a_0.getD x14.toNat default).f_Two)), bytesCk 32 ((a_0.getD x14.toNat default).f_A), bytesCk 32 ((a_0.getD x14.toNat default).f_B)])),
      .slot 12 100000 100000 (fun _ _ => (aggVP [one (intVP .u8 ((a_0.getD x14.toNat default).f_Domain)), one (slVP strC ((a_0.getD x14.toNat default).f_Parts)), one (boolVP ((a_0.getD x14.toNat default).f_Two)), bytesCk 32 ((a_0.getD x14.toNat default).f_A), bytesCk 32 ((a_0.getD x14.toNat default).f_B)])),
      .slot 4 2 100000 (fun v1_ _ => (lpVP v1_ 0)),
      .res 2 100000 (fun v1_ _ => (lb (v1_) 26 [one (intVP .u8 ((S_law04_Ask.mk (0 : Int) [] false (List.replicate 32 0) (List.replicate 32 0)).f_Domain)), one (slVP strC ((S_law04_Ask.mk (0 : Int) [] false (List.replicate 32 0) (List.replicate 32 0)).f_Parts)), one (boolVP ((S_law04_Ask.mk (0 : Int) [] false (List.replicate 32 0) (List.replicate 32 0)).f_Two)), bytesCk 32 ((S_law04_Ask.mk (0 : Int) [] false (List.replicate 32 0) (List.replicate 32 0)).f_A), bytesCk 32 ((S_law04_Ask.mk (0 : Int) [] false (List.replicate 32 0) (List.replicate 32 0)).f_B)])),
      .res 2 100000 (fun v1_ _ => (lb (v1_) 26 [one (intVP .u8 ((a_0.getD x14.toNat default).f_Domain)), one (slVP strC ((a_0.getD x14.toNat default).f_Parts)), one (boolVP ((a_0.getD x14.toNat default).f_Two)), bytesCk 32 ((a_0.getD x14.toNat default).f_A), bytesCk 32 ((a_0.getD x14.toNat default).f_B)]))] [0, 1, 2, 2, 3] [⟨[1, 3], [], [4], [], some 11⟩, ⟨[4], [], [5], [0], some 12⟩, ⟨[], [], [6, 7], [0, 1], some 4⟩, ⟨[6, 5], [7], [8], [0, 1, 2], none⟩] [0, 6, 1, 2, 3, 8] mixed hn hG h (by kernel_rfl) ?_ ?_
      · exact ⟨⟨rfl, fun β => (GOk.plain (op_indexAddr_sl Tryd.underlying29 Tryd.sizeOf26 S_law04_Ask.lens (opt 0 rfl) (opt 1 rfl) hv30) rfl)⟩, ⟨rfl, fun β => (GOk.plain (op_load_pp [one (intVP .u8 ((a_0.getD x14.toNat default).f_Domain)), one (slVP strC ((a_0.getD x14.toNat default).f_Parts)), one (boolVP ((a_0.getD x14.toNat default).f_Two)), bytesCk 32 ((a_0.getD x14.toNat default).f_A), bytesCk 32 ((a_0.getD x14.toNat default).f_B)] [] Tryd.isAgg26 Tryd.sizeOf26 (opt 0 rfl) rfl) rfl)⟩, ⟨rfl, fun β => (GOk.plain (op_alloc Tryd.zeroValue26 z26) rfl)⟩, ⟨rfl, fun β => (GOk.plain (op_store_lb [] [one (intVP .u8 ((S_law04_Ask.mk (0 : Int) [] false (List.replicate 32 0) (List.replicate 32 0)).f_Domain)), one (slVP strC ((S_law04_Ask.mk (0 : Int) [] false (List.replicate 32 0) (List.replicate 32 0)).f_Parts)), one (boolVP ((S_law04_Ask.mk (0 : Int) [] false (List.replicate 32 0) (List.replicate 32 0)).f_Two)), bytesCk 32 ((S_law04_Ask.mk (0 : Int) [] false (List.replicate 32 0) (List.replicate 32 0)).f_A), bytesCk 32 ((S_law04_Ask.mk (0 : Int) [] false (List.replicate 32 0) (List.replicate 32 0)).f_B)] [] [one (intVP .u8 ((a_0.getD x14.toNat default).f_Domain)), one (slVP strC ((a_0.getD x14.toNat default).f_Parts)), one (boolVP ((a_0.getD x14.toNat default).f_Two)), bytesCk 32 ((a_0.getD x14.toNat default).f_A), bytesCk 32 ((a_0.getD x14.toNat default).f_B)] Tryd.sizeOf26 (opt 0 rfl) (opt 1 rfl) (cells_agg _) rfl rfl rfl) rfl)⟩, trivial⟩
      clear h
      intro β a w h
      change SatL c [.slot 0 (slVP S_law04_Ask.ck a_0), .slot 4 (lpVP (β 2) 0), .slot 7 (slVP S_law04_Ask.ck a_0), .slot 8 (intVP .i64 (a_0.length : Int)), .slot 9 (intVP .i64 x14), .res (lb (β 2) 26 [one (intVP .u8 ((a_0.getD x14.toNat default).f_Domain)), one (slVP strC ((a_0.getD x14.toNat default).f_Parts)), one (boolVP ((a_0.getD x14.toNat default).f_Two)), bytesCk 32 ((a_0.getD x14.toNat default).f_A), bytesCk 32 ((a_0.getD x14.toNat default).f_B)])] a w at h
      generalize β 2 = p31 at h
      clear β
      show Code.wp Tryd.prog _ _ a w
      refine wp_seq ?_
      refine wp_seq ?_
      refine wp_cut (fun a w => ∃ (x32 : Bool), law04_light.j1 a_0 x14 x32 = some o ∧ SatL c [.slot 0 (slVP S_law04_Ask.ck a_0), .slot 4 (lpVP p31 0), .slot 7 (slVP S_law04_Ask.ck a_0), .slot 8 (intVP .i64 (a_0.length : Int)), .slot 9 (intVP .i64 x14), .slot 21 (boolVP x32), .res (lb p31 26 [one (intVP .u8 ((a_0.getD x14.toNat default).f_Domain)), one (slVP strC ((a_0.getD x14.toNat default).f_Parts)), one (boolVP ((a_0.getD x14.toNat default).f_Two)), bytesCk 32 ((a_0.getD x14.toNat default).f_A), bytesCk 32 ((a_0.getD x14.toNat default).f_B)])] a w) ?_ ?_
      · rcases Bool.eq_false_or_eq_true (decide ((40 : Int) < (a_0.length : Int))) with hb50 | hb50
        · replace hF := tt_of hb50 hF
          refine region_do (n := 34) [.slot 13 100000 100000 (fun _ _ => (slVP S_law04_Ask.ck a_0)),
      .slot 14 100000 100000 (fun _ _ => (intVP .i64 (a_0.length : Int))),
      .slot 15 100000 100000 (fun _ _ => (boolVP (decide ((40 : Int) < (a_0.length : Int))))),
      .slot 16 100000 100000 (fun _ _ => (boolVP (decide ((40 : Int) < (a_0.length : Int))))),
      .slot 17 100000 100000 (fun _ _ => (eqVP undef)),
      .slot 18 100000 100000 (fun _ _ => (eqVP undef)),
      .slot 19 100000 100000 (fun _ _ => (eqVP undef)),
      .slot 20 100000 100000 (fun _ _ => (eqVP undef)),
      .slot 21 100000 100000 (fun _ _ => (boolVP true))] [0, 1, 2, 3, 4, 5, 6, 7, 8] [⟨[0], [], [6], [], some 13⟩, ⟨[6], [], [7], [0], some 14⟩, ⟨[7], [], [8], [0, 1], some 15⟩, ⟨[8], [], [9], [0, 1, 2], some 16⟩, ⟨[9], [], [10], [0, 1, 2, 3], some 17⟩, ⟨[9], [], [11], [0, 1, 2, 3, 4], some 18⟩, ⟨[9], [], [12], [0, 1, 2, 3, 4, 5], some 19⟩, ⟨[9], [], [13], [0, 1, 2, 3, 4, 5, 6], some 20⟩, ⟨[9], [], [14], [0, 1, 2, 3, 4, 5, 6, 7], some 21⟩] [0, 1, 2, 3, 4, 14, 5] mixed hn hG h (by kernel_rfl) ?_ ?_
          · exact ⟨⟨rfl, fun β => (GOk.plain (op_move (opt 0 rfl)) rfl)⟩, ⟨rfl, fun β => (GOk.plain (op_len_sl Tryd.underlying29 (opt 0 rfl)) rfl)⟩, ⟨rfl, fun β => (GOk.plain (op_bin bin_gtr (opt 0 rfl) (opc (ic (by decide)))) rfl)⟩, ⟨rfl, fun β => (GOk.plain (op_move (opt 0 rfl)) rfl)⟩, ⟨rfl, fun β => (GOk.off_v (want := false) hb50 rfl rfl rfl rfl)⟩, ⟨rfl, fun β => (GOk.off_v (want := false) hb50 rfl rfl rfl rfl)⟩, ⟨rfl, fun β => (GOk.off_v (want := false) hb50 rfl rfl rfl rfl)⟩, ⟨rfl, fun β => (GOk.off_v (want := false) hb50 rfl rfl rfl rfl)⟩, ⟨rfl, fun β => (GOk.plain (op_pick_t hb50 (opt 0 rfl) (opc (bc _))) rfl)⟩, trivial⟩
          clear h
          intro β a w h
          change SatL c [.slot 0 (slVP S_law04_Ask.ck a_0), .slot 4 (lpVP p31 0), .slot 7 (slVP S_law04_Ask.ck a_0), .slot 8 (intVP .i64 (a_0.length : Int)), .slot 9 (intVP .i64 x14), .slot 21 (boolVP true), .res (lb p31 26 [one (intVP .u8 ((a_0.getD x14.toNat default).f_Domain)), one (slVP strC ((a_0.getD x14.toNat default).f_Parts)), one (boolVP ((a_0.getD x14.toNat default).f_Two)), bytesCk 32 ((a_0.getD x14.toNat default).f_A), bytesCk 32 ((a_0.getD x14.toNat default).f_B)])] a w at h
          clear β
          exact ⟨true, hF, h.sub [0, 1, 2, 3, 4, 5, 6] (by rfl)⟩
        · replace hF := ff_of hb50 hF
          refine region_do (n := 34) [.slot 13 100000 100000 (fun _ _ => (slVP S_law04_Ask.ck a_0)),
      .slot 14 100000 100000 (fun _ _ => (intVP .i64 (a_0.length : Int))),
      .slot 15 100000 100000 (fun _ _ => (boolVP (decide ((40 : Int) < (a_0.length : Int))))),
      .slot 16 100000 100000 (fun _ _ => (boolVP (decide ((40 : Int) < (a_0.length : Int))))),
      .slot 17 100000 100000 (fun _ _ => (lpVP p31 1)),
      .slot 18 100000 100000 (fun _ _ => (slVP strC ((a_0.getD x14.toNat default).f_Parts))),
      .slot 19 100000 100000 (fun _ _ => (intVP .i64 (((a_0.getD x14.toNat default).f_Parts).length : Int))),
      .slot 20 100000 100000 (fun _ _ => (boolVP (decide ((20 : Int) < (((a_0.getD x14.toNat default).f_Parts).length : Int))))),
      .slot 21 100000 100000 (fun _ _ => (boolVP (decide ((20 : Int) < (((a_0.getD x14.toNat default).f_Parts).length : Int)))))] [0, 1, 2, 3, 4, 5, 6, 7, 8] [⟨[0], [], [6], [], some 13⟩, ⟨[6], [], [7], [0], some 14⟩, ⟨[7], [], [8], [0, 1], some 15⟩, ⟨[8], [], [9], [0, 1, 2], some 16⟩, ⟨[9, 1], [], [10], [0, 1, 2, 3], some 17⟩, ⟨[9, 10, 5], [], [11], [0, 1, 2, 3, 4], some 18⟩, ⟨[9, 11], [], [12], [0, 1, 2, 3, 4, 5], some 19⟩, ⟨[9, 12], [], [13], [0, 1, 2, 3, 4, 5, 6], some 20⟩, ⟨[9, 13], [], [14], [0, 1, 2, 3, 4, 5, 6, 7], some 21⟩] [0, 1, 2, 3, 4, 14, 5] mixed hn hG h (by kernel_rfl) ?_ ?_
          · exact ⟨⟨rfl, fun β => (GOk.plain (op_move (opt 0 rfl)) rfl)⟩, ⟨rfl, fun β => (GOk.plain (op_len_sl Tryd.underlying29 (opt 0 rfl)) rfl)⟩, ⟨rfl, fun β => (GOk.plain (op_bin bin_gtr (opt 0 rfl) (opc (ic (by decide)))) rfl)⟩, ⟨rfl, fun β => (GOk.plain (op_move (opt 0 rfl)) rfl)⟩, ⟨rfl, fun β => (GOk.on_eq hb50 rfl rfl rfl (op_fieldAddr_lbm (p := p31) (n := 1) 0 1 Tryd.underlying26 rfl Tryd.sizeOf22 (by decide) (opt 0 rfl) rfl))⟩, ⟨rfl, fun β => (GOk.on_eq hb50 rfl rfl rfl (op_load_lb1 [one (intVP .u8 ((a_0.getD x14.toNat default).f_Domain))] [one (boolVP ((a_0.getD x14.toNat default).f_Two)), bytesCk 32 ((a_0.getD x14.toNat default).f_A), bytesCk 32 ((a_0.getD x14.toNat default).f_B)] 1 Tryd.isAgg22 (opt 0 rfl) rfl rfl))⟩, ⟨rfl, fun β => (GOk.on_eq hb50 rfl rfl rfl (op_len_sl Tryd.underlying22 (opt 0 rfl)))⟩, ⟨rfl, fun β => (GOk.on_eq hb50 rfl rfl rfl (op_bin bin_gtr (opt 0 rfl) (opc (ic (by decide)))))⟩, ⟨rfl, fun β => (GOk.plain (op_pick_f hb50 (opt 0 rfl) (opt 1 rfl)) rfl)⟩, trivial⟩
          clear h
          intro β a w h
          change SatL c [.slot 0 (slVP S_law04_Ask.ck a_0), .slot 4 (lpVP p31 0), .slot 7 (slVP S_law04_Ask.ck a_0), .slot 8 (intVP .i64 (a_0.length : Int)), .slot 9 (intVP .i64 x14), .slot 21 (boolVP (decide ((20 : Int) < (((a_0.getD x14.toNat default).f_Parts).length : Int)))), .res (lb p31 26 [one (intVP .u8 ((a_0.getD x14.toNat default).f_Domain)), one (slVP strC ((a_0.getD x14.toNat default).f_Parts)), one (boolVP ((a_0.getD x14.toNat default).f_Two)), bytesCk 32 ((a_0.getD x14.toNat default).f_A), bytesCk 32 ((a_0.getD x14.toNat default).f_B)])] a w at h
          clear β
          exact ⟨decide ((20 : Int) < (((a_0.getD x14.toNat default).f_Parts).length : Int)), hF, h.sub [0, 1, 2, 3, 4, 5, 6] (by rfl)⟩
      · clear h hF
        rintro a w ⟨x32, hF, h⟩
        unfold law04_light.j1 at hF
        show Code.wp Tryd.prog _ _ a w
        refine cond_L h 5 rfl (fun hb33 => ?_) (fun hb33 => ?_)
        · replace hF := tt_of hb33 hF
          replace h := h.sub [] (by rfl)
          change SatL c [] a w at h
          refine wp_seq ?_
          refine region_do (n := 34) [.slot 2 100000 100000 (fun _ _ => (boolVP false))] [0] [⟨[], [], [0], [], some 2⟩] [0] mixed hn hG h (by kernel_rfl) ?_ ?_
          · exact ⟨⟨rfl, fun β => (GOk.plain (op_assign (opc (bc _))) rfl)⟩, trivial⟩
          clear h
          intro β a w h
          change SatL c [.slot 2 (boolVP false)] a w at h
          clear β
          show Code.wp Tryd.prog _ _ a w
          refine wp_ret ?_
          obtain rfl := Option.some.inj hF
          exact ⟨ret_ne, rfl, ret1 h Tryd.results12 (r_tmp 0 rfl) [] [] rfl rfl rfl⟩
        · replace hF := ff_of hb33 hF
          replace h := h.sub [0, 1, 2, 3, 4, 6] (by rfl)
          change SatL c [.slot 0 (slVP S_law04_Ask.ck a_0), .slot 4 (lpVP p31 0), .slot 7 (slVP S_law04_Ask.ck a_0), .slot 8 (intVP .i64 (a_0.length : Int)), .slot 9 (intVP .i64 x14), .res (lb p31 26 [one (intVP .u8 ((a_0.getD x14.toNat default).f_Domain)), one (slVP strC ((a_0.getD x14.toNat default).f_Parts)), one (boolVP ((a_0.getD x14.toNat default).f_Two)), bytesCk 32 ((a_0.getD x14.toNat default).f_A), bytesCk 32 ((a_0.getD x14.toNat default).f_B)])] a w at h
          refine wp_skip ?_
          show Code.wp Tryd.prog _ _ a w
          refine wp_seq ?_
          refine region_do (n := 34) [.slot 22 100000 100000 (fun _ _ => (lpVP p31 1)),
      .slot 23 100000 100000 (fun _ _ => (slVP strC ((a_0.getD x14.toNat default).f_Parts))),
      .slot 24 100000 100000 (fun _ _ => (intVP .i64 (((a_0.getD x14.toNat default).f_Parts).length : Int))),
      .slot 25 100000 100000 (fun _ _ => (intVP .i64 0))] [0, 1, 2, 3] [⟨[1], [], [6], [], some 22⟩, ⟨[6, 5], [], [7], [0], some 23⟩, ⟨[7], [], [8], [0, 1], some 24⟩, ⟨[], [], [9], [0, 1, 2], some 25⟩] [0, 2, 3, 4, 7, 8, 9] mixed hn hG h (by kernel_rfl) ?_ ?_
          · exact ⟨⟨rfl, fun β => (GOk.plain (op_fieldAddr_lbm (p := p31) (n := 1) 0 1 Tryd.underlying26 rfl Tryd.sizeOf22 (by decide) (opt 0 rfl) rfl) rfl)⟩, ⟨rfl, fun β => (GOk.plain (op_load_lb1 [one (intVP .u8 ((a_0.getD x14.toNat default).f_Domain))] [one (boolVP ((a_0.getD x14.toNat default).f_Two)), bytesCk 32 ((a_0.getD x14.toNat default).f_A), bytesCk 32 ((a_0.getD x14.toNat default).f_B)] 1 Tryd.isAgg22 (opt 0 rfl) rfl rfl) rfl)⟩, ⟨rfl, fun β => (GOk.plain (op_len_sl Tryd.underlying22 (opt 0 rfl)) rfl)⟩, ⟨rfl, fun β => (GOk.plain (op_move (opc (ic (by decide)))) rfl)⟩, trivial⟩
          clear h
          intro β a w h
          change SatL c [.slot 0 (slVP S_law04_Ask.ck a_0), .slot 7 (slVP S_law04_Ask.ck a_0), .slot 8 (intVP .i64 (a_0.length : Int)), .slot 9 (intVP .i64 x14), .slot 23 (slVP strC ((a_0.getD x14.toNat default).f_Parts)), .slot 24 (intVP .i64 (((a_0.getD x14.toNat default).f_Parts).length : Int)), .slot 25 (intVP .i64 0)] a w at h
          clear β
          show Code.wp Tryd.prog _ _ a w
          refine wp_block ?_
          obtain ⟨cr45, hl46, hF⟩ := bind_some hF
          refine wp_mono (wp_loopN (R := Bool) (S := Int) (fun s a w => SatL c [.slot 0 (slVP S_law04_Ask.ck a_0), .slot 7 (slVP S_law04_Ask.ck a_0), .slot 8 (intVP .i64 (a_0.length : Int)), .slot 9 (intVP .i64 x14), .slot 23 (slVP strC ((a_0.getD x14.toNat default).f_Parts)), .slot 24 (intVP .i64 (((a_0.getD x14.toNat default).f_Parts).length : Int)), .slot 25 (intVP .i64 s)] a w) (fun res e a w => match res with | .next s => e = .exit 2 ∧ SatL c [.slot 0 (slVP S_law04_Ask.ck a_0), .slot 7 (slVP S_law04_Ask.ck a_0), .slot 8 (intVP .i64 (a_0.length : Int)), .slot 9 (intVP .i64 x14)] a w | .ret r => e = .ret ∧ RetOk Tryd.prog Tryd.f12 c (boolVP r) (fun _ => []) a w) ?_ _ 0 _ _ _ (h.sub [0, 1, 2, 3, 4, 5, 6] (by rfl)) hl46) ?_
          · clear hl46 hF h
            intro x37 a w o h hF
            change law04_light.b2 a_0 x14 x37 = some o at hF
            unfold law04_light.b2 at hF
            change SatL c [.slot 0 (slVP S_law04_Ask.ck a_0), .slot 7 (slVP S_law04_Ask.ck a_0), .slot 8 (intVP .i64 (a_0.length : Int)), .slot 9 (intVP .i64 x14), .slot 23 (slVP strC ((a_0.getD x14.toNat default).f_Parts)), .slot 24 (intVP .i64 (((a_0.getD x14.toNat default).f_Parts).length : Int)), .slot 25 (intVP .i64 x37)] a w at h
            refine wp_seq ?_
            refine region_do (n := 34) [.slot 26 100000 100000 (fun _ _ => (boolVP (decide (x37 < (((a_0.getD x14.toNat default).f_Parts).length : Int)))))] [0] [⟨[6, 5], [], [7], [], some 26⟩] [0, 1, 2, 3, 4, 5, 6, 7] mixed hn hG h (by kernel_rfl) ?_ ?_
            · exact ⟨⟨rfl, fun β => (GOk.plain (op_bin bin_lss (opt 0 rfl) (opt 1 rfl)) rfl)⟩, trivial⟩
            clear h
            intro β a w h
            change SatL c [.slot 0 (slVP S_law04_Ask.ck a_0), .slot 7 (slVP S_law04_Ask.ck a_0), .slot 8 (intVP .i64 (a_0.length : Int)), .slot 9 (intVP .i64 x14), .slot 23 (slVP strC ((a_0.getD x14.toNat default).f_Parts)), .slot 24 (intVP .i64 (((a_0.getD x14.toNat default).f_Parts).length : Int)), .slot 25 (intVP .i64 x37), .slot 26 (boolVP (decide (x37 < (((a_0.getD x14.toNat default).f_Parts).length : Int))))] a w at h
            clear β
            show Code.wp Tryd.prog _ _ a w
            refine wp_seq ?_
            refine cond_L h 7 rfl (fun hb42 => ?_) (fun hb42 => ?_)
            · replace hF := tt_of hb42 hF
              replace h := h.sub [0, 1, 2, 3, 4, 5, 6] (by rfl)
              change SatL c [.slot 0 (slVP S_law04_Ask.ck a_0), .slot 7 (slVP S_law04_Ask.ck a_0), .slot 8 (intVP .i64 (a_0.length : Int)), .slot 9 (intVP .i64 x14), .slot 23 (slVP strC ((a_0.getD x14.toNat default).f_Parts)), .slot 24 (intVP .i64 (((a_0.getD x14.toNat default).f_Parts).length : Int)), .slot 25 (intVP .i64 x37)] a w at h
              refine wp_skip ?_
              show Code.wp Tryd.prog _ _ a w
              refine wp_seq ?_
              refine wp_block ?_
              refine wp_seq ?_
              obtain ⟨hv43, hF⟩ := ite_some hF
              refine region_do (n := 34) [.slot 27 100000 100000 (fun _ _ => (ppVP [one (strVP (((a_0.getD x14.toNat default).f_Parts).getD x37.toNat default))])),
      .slot 28 100000 100000 (fun _ _ => (strVP (((a_0.getD x14.toNat default).f_Parts).getD x37.toNat default))),
      .slot 6 100000 100000 (fun _ _ => (strVP (((a_0.getD x14.toNat default).f_Parts).getD x37.toNat default)))] [0, 1, 2] [⟨[4, 6], [], [7], [], some 27⟩, ⟨[7], [], [8], [0], some 28⟩, ⟨[8], [], [9], [0, 1], some 6⟩] [0, 9, 1, 2, 3, 4, 5, 6] mixed hn hG h (by kernel_rfl) ?_ ?_
              · exact ⟨⟨rfl, fun β => (GOk.plain (op_indexAddr_sl Tryd.underlying22 Tryd.sizeOf9 lens_strC (opt 0 rfl) (opt 1 rfl) hv43) rfl)⟩, ⟨rfl, fun β => (GOk.plain (op_load_pp1 [] Tryd.isAgg9 (opt 0 rfl)) rfl)⟩, ⟨rfl, fun β => (GOk.plain (op_assign (opt 0 rfl)) rfl)⟩, trivial⟩
              clear h
              intro β a w h
              change SatL c [.slot 0 (slVP S_law04_Ask.ck a_0), .slot 6 (strVP (((a_0.getD x14.toNat default).f_Parts).getD x37.toNat default)), .slot 7 (slVP S_law04_Ask.ck a_0), .slot 8 (intVP .i64 (a_0.length : Int)), .slot 9 (intVP .i64 x14), .slot 23 (slVP strC ((a_0.getD x14.toNat default).f_Parts)), .slot 24 (intVP .i64 (((a_0.getD x14.toNat default).f_Parts).length : Int)), .slot 25 (intVP .i64 x37)] a w at h
              clear β
              show Code.wp Tryd.prog _ _ a w
              refine wp_seq ?_
              refine region_do (n := 34) [.slot 29 100000 100000 (fun _ _ => (strVP (((a_0.getD x14.toNat default).f_Parts).getD x37.toNat default))),
      .slot 30 100000 100000 (fun _ _ => (intVP .i64 ((((a_0.getD x14.toNat default).f_Parts).getD x37.toNat default).length : Int))),
      .slot 31 100000 100000 (fun _ _ => (boolVP (decide ((1000 : Int) < ((((a_0.getD x14.toNat default).f_Parts).getD x37.toNat default).length : Int)))))] [0, 1, 2] [⟨[1], [], [8], [], some 29⟩, ⟨[8], [], [9], [0], some 30⟩, ⟨[9], [], [10], [0, 1], some 31⟩] [0, 2, 3, 4, 5, 6, 7, 10] mixed hn hG h (by kernel_rfl) ?_ ?_
              · exact ⟨⟨rfl, fun β => (GOk.plain (op_move (opt 0 rfl)) rfl)⟩, ⟨rfl, fun β => (GOk.plain (op_len_str Tryd.underlying9 (opt 0 rfl)) rfl)⟩, ⟨rfl, fun β => (GOk.plain (op_bin bin_gtr (opt 0 rfl) (opc (ic (by decide)))) rfl)⟩, trivial⟩
              clear h
              intro β a w h
              change SatL c [.slot 0 (slVP S_law04_Ask.ck a_0), .slot 7 (slVP S_law04_Ask.ck a_0), .slot 8 (intVP .i64 (a_0.length : Int)), .slot 9 (intVP .i64 x14), .slot 23 (slVP strC ((a_0.getD x14.toNat default).f_Parts)), .slot 24 (intVP .i64 (((a_0.getD x14.toNat default).f_Parts).length : Int)), .slot 25 (intVP .i64 x37), .slot 31 (boolVP (decide ((1000 : Int) < ((((a_0.getD x14.toNat default).f_Parts).getD x37.toNat default).length : Int))))] a w at h
              clear β
              show Code.wp Tryd.prog _ _ a w
              refine cond_L h 7 rfl (fun hb44 => ?_) (fun hb44 => ?_)
              · replace hF := tt_of hb44 hF
                replace h := h.sub [] (by rfl)
                change SatL c [] a w at h
                refine wp_seq ?_
                refine region_do (n := 34) [.slot 2 100000 100000 (fun _ _ => (boolVP false))] [0] [⟨[], [], [0], [], some 2⟩] [0] mixed hn hG h (by kernel_rfl) ?_ ?_
                · exact ⟨⟨rfl, fun β => (GOk.plain (op_assign (opc (bc _))) rfl)⟩, trivial⟩
                clear h
                intro β a w h
                change SatL c [.slot 2 (boolVP false)] a w at h
                clear β
                show Code.wp Tryd.prog _ _ a w
                refine wp_ret ?_
                obtain rfl := Option.some.inj hF
                exact ⟨ret_ne, rfl, ret1 h Tryd.results12 (r_tmp 0 rfl) [] [] rfl rfl rfl⟩
              · replace hF := ff_of hb44 hF
                replace h := h.sub [0, 1, 2, 3, 4, 5, 6] (by rfl)
                change SatL c [.slot 0 (slVP S_law04_Ask.ck a_0), .slot 7 (slVP S_law04_Ask.ck a_0), .slot 8 (intVP .i64 (a_0.length : Int)), .slot 9 (intVP .i64 x14), .slot 23 (slVP strC ((a_0.getD x14.toNat default).f_Parts)), .slot 24 (intVP .i64 (((a_0.getD x14.toNat default).f_Parts).length : Int)), .slot 25 (intVP .i64 x37)] a w at h
                refine wp_skip ?_
                show Code.wp Tryd.prog _ _ a w
                refine region_do (n := 34) [.slot 32 100000 100000 (fun _ _ => (intVP .i64 (IntKind.wrap .i64 (x37 + 1)))),
      .slot 25 100000 100000 (fun _ _ => (intVP .i64 (IntKind.wrap .i64 (x37 + 1))))] [0, 1] [⟨[6], [], [7], [], some 32⟩, ⟨[7], [6], [8], [0], some 25⟩] [0, 1, 2, 3, 4, 5, 8] mixed hn hG h (by kernel_rfl) ?_ ?_
                · exact ⟨⟨rfl, fun β => (GOk.plain (op_bin bin_add (opt 0 rfl) (opc (ic (by decide)))) rfl)⟩, ⟨rfl, fun β => (GOk.drop _ (GOk.plain (op_move (opt 0 rfl)) rfl))⟩, trivial⟩
                clear h
                intro β a w h
                change SatL c [.slot 0 (slVP S_law04_Ask.ck a_0), .slot 7 (slVP S_law04_Ask.ck a_0), .slot 8 (intVP .i64 (a_0.length : Int)), .slot 9 (intVP .i64 x14), .slot 23 (slVP strC ((a_0.getD x14.toNat default).f_Parts)), .slot 24 (intVP .i64 (((a_0.getD x14.toNat default).f_Parts).length : Int)), .slot 25 (intVP .i64 (IntKind.wrap .i64 (x37 + 1)))] a w at h
                clear β
                obtain rfl := Option.some.inj hF
                exact ⟨rfl, h.sub [0, 1, 2, 3, 4, 5, 6] (by rfl)⟩
            · replace hF := ff_of hb42 hF
              replace h := h.sub [0, 1, 2, 3, 4, 5, 6] (by rfl)
              change SatL c [.slot 0 (slVP S_law04_Ask.ck a_0), .slot 7 (slVP S_law04_Ask.ck a_0), .slot 8 (intVP .i64 (a_0.length : Int)), .slot 9 (intVP .i64 x14), .slot 23 (slVP strC ((a_0.getD x14.toNat default).f_Parts)), .slot 24 (intVP .i64 (((a_0.getD x14.toNat default).f_Parts).length : Int)), .slot 25 (intVP .i64 x37)] a w at h
              refine wp_exit ?_
              obtain rfl := Option.some.inj hF
              exact ⟨exit_ne _, rfl, h.sub [0, 1, 2, 3] (by rfl)⟩
          · clear hl46
            intro e a w hq
            cases cr45 with
            | ret r47 =>
              obtain ⟨rfl, hq⟩ := hq
              obtain rfl := Option.some.inj hF
              exact ⟨ret_ne, rfl, hq⟩
            | next y49 =>
              obtain ⟨rfl, h⟩ := hq
              change SatL c [.slot 0 (slVP S_law04_Ask.ck a_0), .slot 7 (slVP S_law04_Ask.ck a_0), .slot 8 (intVP .i64 (a_0.length : Int)), .slot 9 (intVP .i64 x14)] a w at h
              refine inBlock_at ?_
              show Code.wp Tryd.prog _ _ a w
              refine region_do (n := 34) [.slot 33 100000 100000 (fun _ _ => (intVP .i64 (IntKind.wrap .i64 (x14 + 1)))),
      .slot 9 100000 100000 (fun _ _ => (intVP .i64 (IntKind.wrap .i64 (x14 + 1))))] [0, 1] [⟨[3], [], [4], [], some 33⟩, ⟨[4], [3], [5], [0], some 9⟩] [0, 1, 2, 5] mixed hn hG h (by kernel_rfl) ?_ ?_
              · exact ⟨⟨rfl, fun β => (GOk.plain (op_bin bin_add (opt 0 rfl) (opc (ic (by decide)))) rfl)⟩, ⟨rfl, fun β => (GOk.drop _ (GOk.plain (op_move (opt 0 rfl)) rfl))⟩, trivial⟩
              clear h
              intro β a w h
              change SatL c [.slot 0 (slVP S_law04_Ask.ck a_0), .slot 7 (slVP S_law04_Ask.ck a_0), .slot 8 (intVP .i64 (a_0.length : Int)), .slot 9 (intVP .i64 (IntKind.wrap .i64 (x14 + 1)))] a w at h
              clear β
              obtain rfl := Option.some.inj hF
              exact ⟨rfl, h.sub [0, 1, 2, 3] (by rfl)⟩
    · replace hF := ff_of hb29 hF
      replace h := h.sub [0, 1, 2, 3] (by rfl)
      change SatL c [.slot 0 (slVP S_law04_Ask.ck a_0), .slot 7 (slVP S_law04_Ask.ck a_0), .slot 8 (intVP .i64 (a_0.length : Int)), .slot 9 (intVP .i64 x14)] a w at h
      refine wp_exit ?_
      obtain rfl := Option.some.inj hF
      exact ⟨exit_ne _, rfl, h.sub [] (by rfl)⟩
  · clear hl52
    intro e a w hq
    cases cr51 with
    | ret r53 =>
      obtain ⟨rfl, hq⟩ := hq
      obtain rfl := Option.some.inj hF
      exact ⟨.inl rfl, hq⟩
    | next y55 =>
      obtain ⟨rfl, h⟩ := hq
      change SatL c [] a w at h
      refine inBlock_at ?_
      show Code.wp Tryd.prog _ _ a w
      refine wp_seq ?_
      refine region_do (n := 34) [.slot 2 100000 100000 (fun _ _ => (boolVP true))] [0] [⟨[], [], [0], [], some 2⟩] [0] mixed hn hG h (by kernel_rfl) ?_ ?_
      · exact ⟨⟨rfl, fun β => (GOk.plain (op_assign (opc (bc _))) rfl)⟩, trivial⟩
      clear h
      intro β a w h
      change SatL c [.slot 2 (boolVP true)] a w at h
      clear β
      show Code.wp Tryd.prog _ _ a w
      refine wp_ret ?_
      obtain rfl := Option.some.inj hF
      exact ⟨.inl rfl, ret1 h Tryd.results12 (r_tmp 0 rfl) [] [] rfl rfl rfl⟩

def ref03_Bytes (a_0 : List UInt8) : Option (List UInt8) := some (a_0.take ((32 : Int).toNat - (0 : Int).toNat))
theorem ref03_Bytes_ok {a_0 : List UInt8} {r : (List UInt8)} (hF : ref03_Bytes a_0 = some r) : CallOk Tryd.prog KG 42 [(aggVP [bytesCk 32 a_0])] [] (fun _ => []) (strVP r) := by
  refine CallOk.intro 5 Tryd.func42 rfl Tryd.ntmps42 (Nat.le_of_ble_eq_true rfl) ?_
  intro c a w hG hn h
  unfold ref03_Bytes at hF
  change SatL c [.slot 0 (aggVP [bytesCk 32 a_0])] a w at h
  refine wp_seq ?_
  refine region_do (n := 5) [.slot 1 0 100000 (fun v1_ _ => (lpVP v1_ 0)),
      .res 0 100000 (fun v1_ _ => (lb (v1_) 24 [bytesCk 32 a_0])),
      .slot 2 100000 100000 (fun _ _ => (strVP []))] [0, 0, 1] [⟨[0], [], [1, 2], [], some 1⟩, ⟨[], [], [3], [0], some 2⟩] [1, 2] mixed hn hG h (by kernel_rfl) ?_ ?_
  · exact ⟨⟨rfl, fun β => (GOk.plain (op_box (opt 0 rfl) (cells_agg _)) rfl)⟩, ⟨rfl, fun β => (GOk.plain (op_assign (opc (sc _ (by decide)))) rfl)⟩, trivial⟩
  clear h
  intro β a w h
  change SatL c [.slot 1 (lpVP (β 0) 0), .res (lb (β 0) 24 [bytesCk 32 a_0])] a w at h
  generalize β 0 = p1 at h
  clear β
  show Code.wp Tryd.prog _ _ a w
  refine wp_seq ?_
  refine region_do (n := 5) [.slot 3 100000 100000 (fun _ _ => (lslVP p1 (0 + (0 : Int).toNat * 1) ((32 : Int).toNat - (0 : Int).toNat) (32 - (0 : Int).toNat))),
      .slot 4 100000 100000 (fun _ _ => (strVP (a_0.take ((32 : Int).toNat - (0 : Int).toNat)))),
      .slot 2 100000 100000 (fun _ _ => (strVP (a_0.take ((32 : Int).toNat - (0 : Int).toNat))))] [0, 1, 2] [⟨[0], [], [2], [], some 3⟩, ⟨[2, 1], [], [3], [0], some 4⟩, ⟨[3], [], [4], [0, 1], some 2⟩] [4] mixed hn hG h (by kernel_rfl) ?_ ?_
  · exact ⟨⟨rfl, fun β => (GOk.plain (op_slice_lb (a := 0) (b := 32) Tryd.underlying24 Tryd.sizeOf5 (opt 0 rfl) rfl rfl (by decide)) rfl)⟩, ⟨rfl, fun β => (GOk.plain (op_str_lsl [] [] 1 Tryd.underlying79 Tryd.underlying5 Tryd.underlying9 (opt 0 rfl) rfl rfl (by decide) (by decide)) rfl)⟩, ⟨rfl, fun β => (GOk.plain (op_assign (opt 0 rfl)) rfl)⟩, trivial⟩
  clear h
  intro β a w h
  change SatL c [.slot 2 (strVP (a_0.take ((32 : Int).toNat - (0 : Int).toNat)))] a w at h
  clear β
  show Code.wp Tryd.prog _ _ a w
  refine wp_ret ?_
  obtain rfl := Option.some.inj hF
  exact ⟨.inl rfl, ret1 h Tryd.results42 (r_tmp 0 rfl) [] [] rfl rfl rfl⟩

def ref03_Big.b1 (x4 : Int) (x5 : Int) (x6 : List UInt8) : Option (Flow (List UInt8) (Int × Int × (List UInt8))) := (if (decide ((0 : Int) ≤ x5)) = true then (if (0 : Int) ≤ x5 ∧ x5 < 8 then some (.cont (IntKind.wrap .u64 (x4.tdiv 256), IntKind.wrap .i64 (x5 - 1), x6.set x5.toNat (u8of (IntKind.wrap .u8 (x4.tmod 256))))) else none) else some (.brk (x4, x5, x6)))
def ref03_Big (a_0 : Int) (a_1 : Int) : Option (List UInt8) := ((loopN (fun s : Int × Int × (List UInt8) => ref03_Big.b1 s.1 s.2.1 s.2.2) (((IntKind.wrap .i64 (a_1 - 1)) - 0 : Int).toNat + 2) (a_0, IntKind.wrap .i64 (a_1 - 1), (List.replicate 8 0))).bind fun cr => match cr with | .ret r => some r | .next (y18, y19, y20) => (if (0 : Int) ≤ 0 ∧ (0 : Int) ≤ a_1 ∧ a_1 ≤ 8 ∧ (0 : Int) < 8 then (if (a_1 : Int).toNat - (0 : Int).toNat ≤ 8 then some (y20.take ((a_1 : Int).toNat - (0 : Int).toNat)) else none) else none))
theorem ref03_Big_ok {a_0 : Int} {a_1 : Int} {r : (List UInt8)} (hF : ref03_Big a_0 a_1 = some r) : CallOk Tryd.prog KG 49 [(intVP .u64 a_0), (intVP .i64 a_1)] [] (fun _ => []) (strVP r) := by
  refine CallOk.intro 23 Tryd.func49 rfl Tryd.ntmps49 (Nat.le_of_ble_eq_true rfl) ?_
  intro c a w hG hn h
  unfold ref03_Big at hF
  change SatL c [.slot 0 (intVP .u64 a_0), .slot 1 (intVP .i64 a_1)] a w at h
  refine wp_seq ?_
  refine region_do (n := 23) [.slot 4 100000 100000 (fun _ _ => (strVP []))] [0] [⟨[], [], [2], [], some 4⟩] [0, 1] mixed hn hG h (by kernel_rfl) ?_ ?_
  · exact ⟨⟨rfl, fun β => (GOk.plain (op_assign (opc (sc _ (by decide)))) rfl)⟩, trivial⟩
  clear h
  intro β a w h
  change SatL c [.slot 0 (intVP .u64 a_0), .slot 1 (intVP .i64 a_1)] a w at h
  clear β
  show Code.wp Tryd.prog _ _ a w
  refine wp_seq ?_
  refine region_do (n := 23) [.slot 5 0 100000 (fun v1_ _ => (lpVP v1_ 0)),
      .res 0 100000 (fun v1_ _ => (lb (v1_) 106 [bytesCk 8 (List.replicate 8 0)]))] [0, 0] [⟨[], [], [2, 3], [], some 5⟩] [0, 1, 2, 3] mixed hn hG h (by kernel_rfl) ?_ ?_
  · exact ⟨⟨rfl, fun β => (GOk.plain (op_alloc Tryd.zeroValue106 z106) rfl)⟩, trivial⟩
  clear h
  intro β a w h
  change SatL c [.slot 0 (intVP .u64 a_0), .slot 1 (intVP .i64 a_1), .slot 5 (lpVP (β 0) 0), .res (lb (β 0) 106 [bytesCk 8 (List.replicate 8 0)])] a w at h
  generalize β 0 = p1 at h
  clear β
  show Code.wp Tryd.prog _ _ a w
  refine wp_seq ?_
  refine wp_seq ?_
  refine region_do (n := 23) [.slot 7 100000 100000 (fun _ _ => (intVP .i64 a_1)),
      .slot 8 100000 100000 (fun _ _ => (intVP .i64 (IntKind.wrap .i64 (a_1 - 1)))),
      .slot 6 100000 100000 (fun _ _ => (intVP .i64 (IntKind.wrap .i64 (a_1 - 1))))] [0, 1, 2] [⟨[1], [], [4], [], some 7⟩, ⟨[4], [], [5], [0], some 8⟩, ⟨[5], [], [6], [0, 1], some 6⟩] [0, 1, 2, 6, 3] mixed hn hG h (by kernel_rfl) ?_ ?_
  · exact ⟨⟨rfl, fun β => (GOk.plain (op_move (opt 0 rfl)) rfl)⟩, ⟨rfl, fun β => (GOk.plain (op_bin bin_sub (opt 0 rfl) (opc (ic (by decide)))) rfl)⟩, ⟨rfl, fun β => (GOk.plain (op_assign (opt 0 rfl)) rfl)⟩, trivial⟩
  clear h
  intro β a w h
  change SatL c [.slot 0 (intVP .u64 a_0), .slot 1 (intVP .i64 a_1), .slot 5 (lpVP p1 0), .slot 6 (intVP .i64 (IntKind.wrap .i64 (a_1 - 1))), .res (lb p1 106 [bytesCk 8 (List.replicate 8 0)])] a w at h
  clear β
  show Code.wp Tryd.prog _ _ a w
  refine wp_block ?_
  obtain ⟨cr14, hl15, hF⟩ := bind_some hF
  refine wp_mono (wp_loopN (R := (List UInt8)) (S := Int × Int × (List UInt8)) (fun s a w => SatL c [.slot 0 (intVP .u64 s.1), .slot 1 (intVP .i64 a_1), .slot 5 (lpVP p1 0), .slot 6 (intVP .i64 s.2.1), .res (lb p1 106 [bytesCk 8 s.2.2])] a w) (fun res e a w => match res with | .next s => e = .exit 0 ∧ SatL c [.slot 1 (intVP .i64 a_1), .slot 5 (lpVP p1 0), .res (lb p1 106 [bytesCk 8 s.2.2])] a w | .ret r => e = .ret ∧ RetOk Tryd.prog Tryd.f49 c (strVP r) (fun _ => []) a w) ?_ _ (a_0, IntKind.wrap .i64 (a_1 - 1), (List.replicate 8 0)) _ _ _ (h.sub [0, 1, 2, 3, 4] (by rfl)) hl15) ?_
  · clear hl15 hF h
    intro s a w o h hF
    obtain ⟨x4, x5, x6⟩ := s
    change ref03_Big.b1 x4 x5 x6 = some o at hF
    unfold ref03_Big.b1 at hF
    change SatL c [.slot 0 (intVP .u64 x4), .slot 1 (intVP .i64 a_1), .slot 5 (lpVP p1 0), .slot 6 (intVP .i64 x5), .res (lb p1 106 [bytesCk 8 x6])] a w at h
    refine wp_seq ?_
    refine wp_seq ?_
    refine region_do (n := 23) [.slot 9 100000 100000 (fun _ _ => (intVP .i64 x5)),
      .slot 10 100000 100000 (fun _ _ => (boolVP (decide ((0 : Int) ≤ x5))))] [0, 1] [⟨[3], [], [5], [], some 9⟩, ⟨[5], [], [6], [0], some 10⟩] [0, 1, 2, 3, 6, 4] mixed hn hG h (by kernel_rfl) ?_ ?_
    · exact ⟨⟨rfl, fun β => (GOk.plain (op_move (opt 0 rfl)) rfl)⟩, ⟨rfl, fun β => (GOk.plain (op_bin bin_geq (opt 0 rfl) (opc (ic (by decide)))) rfl)⟩, trivial⟩
    clear h
    intro β a w h
    change SatL c [.slot 0 (intVP .u64 x4), .slot 1 (intVP .i64 a_1), .slot 5 (lpVP p1 0), .slot 6 (intVP .i64 x5), .slot 10 (boolVP (decide ((0 : Int) ≤ x5))), .res (lb p1 106 [bytesCk 8 x6])] a w at h
    clear β
    show Code.wp Tryd.prog _ _ a w
    refine cond_L h 4 rfl (fun hb12 => ?_) (fun hb12 => ?_)
    · replace hF := tt_of hb12 hF
      replace h := h.sub [0, 1, 2, 3, 5] (by rfl)
      change SatL c [.slot 0 (intVP .u64 x4), .slot 1 (intVP .i64 a_1), .slot 5 (lpVP p1 0), .slot 6 (intVP .i64 x5), .res (lb p1 106 [bytesCk 8 x6])] a w at h
      refine wp_skip ?_
      show Code.wp Tryd.prog _ _ a w
      refine wp_seq ?_
      refine wp_block ?_
      refine wp_seq ?_
      obtain ⟨hv13, hF⟩ := ite_some hF
      refine region_do (n := 23) [.slot 13 100000 100000 (fun _ _ => (intVP .i64 x5)),
      .slot 14 100000 100000 (fun _ _ => (intVP .u64 x4)),
      .slot 15 100000 100000 (fun _ _ => (intVP .u64 (x4.tmod 256))),
      .slot 16 100000 100000 (fun _ _ => (intVP .u8 (IntKind.wrap .u8 (x4.tmod 256)))),
      .slot 17 100000 100000 (fun _ _ => (lpVP p1 (0 + x5.toNat * 1))),
      .res 100000 100000 (fun _ _ => (lb p1 106 [bytesCk 8 (x6.set x5.toNat (u8of (IntKind.wrap .u8 (x4.tmod 256))))]))] [0, 1, 2, 3, 4, 5] [⟨[3], [], [5], [], some 13⟩, ⟨[0], [], [6], [0], some 14⟩, ⟨[6], [], [7], [0, 1], some 15⟩, ⟨[7], [], [8], [0, 1, 2], some 16⟩, ⟨[2, 5], [], [9], [0, 1, 2, 3], some 17⟩, ⟨[9, 8], [4], [10], [0, 1, 2, 3, 4], none⟩] [0, 1, 2, 3, 10] mixed hn hG h (by kernel_rfl) ?_ ?_
      · exact ⟨⟨rfl, fun β => (GOk.plain (op_move (opt 0 rfl)) rfl)⟩, ⟨rfl, fun β => (GOk.plain (op_move (opt 0 rfl)) rfl)⟩, ⟨rfl, fun β => (GOk.plain (op_bin (bin_rem (by decide)) (opt 0 rfl) (opc (ic (by decide)))) rfl)⟩, ⟨rfl, fun β => (GOk.plain (op_convert_int Tryd.underlying84 Tryd.underlying5 (opt 0 rfl)) rfl)⟩, ⟨rfl, fun β => (GOk.plain (op_indexAddr_lb Tryd.underlying106 Tryd.sizeOf5 (opt 0 rfl) (opt 1 rfl) hv13) rfl)⟩, ⟨rfl, fun β => (GOk.plain (op_store_lbB (i := x5) [] [] Tryd.sizeOf5 (opt 0 rfl) (opt 1 rfl) rfl hv13) rfl)⟩, trivial⟩
      clear h
      intro β a w h
      change SatL c [.slot 0 (intVP .u64 x4), .slot 1 (intVP .i64 a_1), .slot 5 (lpVP p1 0), .slot 6 (intVP .i64 x5), .res (lb p1 106 [bytesCk 8 (x6.set x5.toNat (u8of (IntKind.wrap .u8 (x4.tmod 256))))])] a w at h
      clear β
      show Code.wp Tryd.prog _ _ a w
      refine region_do (n := 23) [.slot 18 100000 100000 (fun _ _ => (intVP .u64 x4)),
      .slot 19 100000 100000 (fun _ _ => (intVP .u64 (IntKind.wrap .u64 (x4.tdiv 256)))),
      .slot 0 100000 100000 (fun _ _ => (intVP .u64 (IntKind.wrap .u64 (x4.tdiv 256))))] [0, 1, 2] [⟨[0], [], [5], [], some 18⟩, ⟨[5], [], [6], [0], some 19⟩, ⟨[6], [0], [7], [0, 1], some 0⟩] [7, 1, 2, 3, 4] mixed hn hG h (by kernel_rfl) ?_ ?_
      · exact ⟨⟨rfl, fun β => (GOk.plain (op_move (opt 0 rfl)) rfl)⟩, ⟨rfl, fun β => (GOk.plain (op_bin (bin_quo (by decide)) (opt 0 rfl) (opc (ic (by decide)))) rfl)⟩, ⟨rfl, fun β => (GOk.drop _ (GOk.plain (op_assign (opt 0 rfl)) rfl))⟩, trivial⟩
      clear h
      intro β a w h
      change SatL c [.slot 0 (intVP .u64 (IntKind.wrap .u64 (x4.tdiv 256))), .slot 1 (intVP .i64 a_1), .slot 5 (lpVP p1 0), .slot 6 (intVP .i64 x5), .res (lb p1 106 [bytesCk 8 (x6.set x5.toNat (u8of (IntKind.wrap .u8 (x4.tmod 256))))])] a w at h
      clear β
      show Code.wp Tryd.prog _ _ a w
      refine region_do (n := 23) [.slot 11 100000 100000 (fun _ _ => (intVP .i64 x5)),
      .slot 12 100000 100000 (fun _ _ => (intVP .i64 (IntKind.wrap .i64 (x5 - 1)))),
      .slot 6 100000 100000 (fun _ _ => (intVP .i64 (IntKind.wrap .i64 (x5 - 1))))] [0, 1, 2] [⟨[3], [], [5], [], some 11⟩, ⟨[5], [], [6], [0], some 12⟩, ⟨[6], [3], [7], [0, 1], some 6⟩] [0, 1, 2, 7, 4] mixed hn hG h (by kernel_rfl) ?_ ?_
      · exact ⟨⟨rfl, fun β => (GOk.plain (op_move (opt 0 rfl)) rfl)⟩, ⟨rfl, fun β => (GOk.plain (op_bin bin_sub (opt 0 rfl) (opc (ic (by decide)))) rfl)⟩, ⟨rfl, fun β => (GOk.drop _ (GOk.plain (op_assign (opt 0 rfl)) rfl))⟩, trivial⟩
      clear h
      intro β a w h
      change SatL c [.slot 0 (intVP .u64 (IntKind.wrap .u64 (x4.tdiv 256))), .slot 1 (intVP .i64 a_1), .slot 5 (lpVP p1 0), .slot 6 (intVP .i64 (IntKind.wrap .i64 (x5 - 1))), .res (lb p1 106 [bytesCk 8 (x6.set x5.toNat (u8of (IntKind.wrap .u8 (x4.tmod 256))))])] a w at h
      clear β
      obtain rfl := Option.some.inj hF
      exact ⟨rfl, h.sub [0, 1, 2, 3, 4] (by rfl)⟩
    · replace hF := ff_of hb12 hF
      replace h := h.sub [0, 1, 2, 3, 5] (by rfl)
      change SatL c [.slot 0 (intVP .u64 x4), .slot 1 (intVP .i64 a_1), .slot 5 (lpVP p1 0), .slot 6 (intVP .i64 x5), .res (lb p1 106 [bytesCk 8 x6])] a w at h
      refine wp_exit ?_
      obtain rfl := Option.some.inj hF
      exact ⟨exit_ne _, rfl, h.sub [1, 2, 4] (by rfl)⟩
  · clear hl15
    intro e a w hq
    cases cr14 with
    | ret r16 =>
      obtain ⟨rfl, hq⟩ := hq
      obtain rfl := Option.some.inj hF
      exact ⟨.inl rfl, hq⟩
    | next s17 =>
      obtain ⟨y18, y19, y20⟩ := s17
      obtain ⟨rfl, h⟩ := hq
      change SatL c [.slot 1 (intVP .i64 a_1), .slot 5 (lpVP p1 0), .res (lb p1 106 [bytesCk 8 y20])] a w at h
      refine inBlock_at ?_
      show Code.wp Tryd.prog _ _ a w
      refine wp_seq ?_
      obtain ⟨hv21, hF⟩ := ite_some hF
      obtain ⟨hv22, hF⟩ := ite_some hF
      refine region_do (n := 23) [.slot 20 100000 100000 (fun _ _ => (intVP .i64 a_1)),
      .slot 21 100000 100000 (fun _ _ => (lslVP p1 (0 + (0 : Int).toNat * 1) ((a_1 : Int).toNat - (0 : Int).toNat) (8 - (0 : Int).toNat))),
      .slot 22 100000 100000 (fun _ _ => (strVP (y20.take ((a_1 : Int).toNat - (0 : Int).toNat)))),
      .slot 4 100000 100000 (fun _ _ => (strVP (y20.take ((a_1 : Int).toNat - (0 : Int).toNat))))] [0, 1, 2, 3] [⟨[0], [], [3], [], some 20⟩, ⟨[1, 3], [], [4], [0], some 21⟩, ⟨[4, 2], [], [5], [0, 1], some 22⟩, ⟨[5], [], [6], [0, 1, 2], some 4⟩] [6] mixed hn hG h (by kernel_rfl) ?_ ?_
      · exact ⟨⟨rfl, fun β => (GOk.plain (op_move (opt 0 rfl)) rfl)⟩, ⟨rfl, fun β => (GOk.plain (op_slice_lb (a := 0) (b := a_1) Tryd.underlying106 Tryd.sizeOf5 (opt 0 rfl) rfl ⟨_, (opt 1 rfl)⟩ hv21) rfl)⟩, ⟨rfl, fun β => (GOk.plain (op_str_lsl [] [] 1 Tryd.underlying79 Tryd.underlying5 Tryd.underlying9 (opt 0 rfl) rfl rfl hv22 (by decide)) rfl)⟩, ⟨rfl, fun β => (GOk.plain (op_assign (opt 0 rfl)) rfl)⟩, trivial⟩
      clear h
      intro β a w h
      change SatL c [.slot 4 (strVP (y20.take ((a_1 : Int).toNat - (0 : Int).toNat)))] a w at h
      clear β
      show Code.wp Tryd.prog _ _ a w
      refine wp_ret ?_
      obtain rfl := Option.some.inj hF
      exact ⟨.inl rfl, ret1 h Tryd.results49 (r_tmp 0 rfl) [] [] rfl rfl rfl⟩

def ref03_Text (a_0 : List UInt8) : Option (List UInt8) := ((ref03_Big (IntKind.wrap .u64 (a_0.length : Int)) 4).bind fun r1 => (if r1.length + a_0.length ≤ mxl then some (r1 ++ a_0) else none))
theorem ref03_Text_ok {a_0 : List UInt8} {r : (List UInt8)} (hF : ref03_Text a_0 = some r) : CallOk Tryd.prog KG 57 [(strVP a_0)] [] (fun _ => []) (strVP r) := by
  refine CallOk.intro 9 Tryd.func57 rfl Tryd.ntmps57 (Nat.le_of_ble_eq_true rfl) ?_
  intro c a w hG hn h
  unfold ref03_Text at hF
  change SatL c [.slot 0 (strVP a_0)] a w at h
  refine wp_seq ?_
  refine region_do (n := 9) [.slot 2 100000 100000 (fun _ _ => (strVP []))] [0] [⟨[], [], [1], [], some 2⟩] [0] mixed hn hG h (by kernel_rfl) ?_ ?_
  · exact ⟨⟨rfl, fun β => (GOk.plain (op_assign (opc (sc _ (by decide)))) rfl)⟩, trivial⟩
  clear h
  intro β a w h
  change SatL c [.slot 0 (strVP a_0)] a w at h
  clear β
  show Code.wp Tryd.prog _ _ a w
  refine wp_seq ?_
  obtain ⟨r1, hr1, hF⟩ := bind_some hF
  obtain ⟨hv2, hF⟩ := ite_some hF
  refine region_do (n := 9) [.slot 3 100000 100000 (fun _ _ => (strVP a_0)),
      .slot 4 100000 100000 (fun _ _ => (intVP .i64 (a_0.length : Int))),
      .slot 5 100000 100000 (fun _ _ => (intVP .u64 (IntKind.wrap .u64 (a_0.length : Int)))),
      .slot 6 100000 100000 (fun _ _ => (strVP r1)),
      .slot 7 100000 100000 (fun _ _ => (strVP a_0)),
      .slot 8 100000 100000 (fun _ _ => (strVP (r1 ++ a_0))),
      .slot 2 100000 100000 (fun _ _ => (strVP (r1 ++ a_0)))] [0, 1, 2, 3, 4, 5, 6] [⟨[0], [], [1], [], some 3⟩, ⟨[1], [], [2], [0], some 4⟩, ⟨[2], [], [3], [0, 1], some 5⟩, ⟨[3], [], [4], [0, 1, 2], some 6⟩, ⟨[0], [], [5], [0, 1, 2, 3], some 7⟩, ⟨[4, 5], [], [6], [0, 1, 2, 3, 4], some 8⟩, ⟨[6], [], [7], [0, 1, 2, 3, 4, 5], some 2⟩] [7] mixed hn hG h (by kernel_rfl) ?_ ?_
  · exact ⟨⟨rfl, fun β => (GOk.plain (op_move (opt 0 rfl)) rfl)⟩, ⟨rfl, fun β => (GOk.plain (op_len_str Tryd.underlying9 (opt 0 rfl)) rfl)⟩, ⟨rfl, fun β => (GOk.plain (op_convert_int Tryd.underlying3 Tryd.underlying84 (opt 0 rfl)) rfl)⟩, ⟨rfl, fun β => (GOk.plain (op_call Tryd.call49 (ref03_Big_ok hr1) ⟨(opt 0 rfl), (opc (ic (by decide))), trivial⟩) rfl)⟩, ⟨rfl, fun β => (GOk.plain (op_move (opt 0 rfl)) rfl)⟩, ⟨rfl, fun β => (GOk.plain (op_bin (bin_sadd hv2) (opt 0 rfl) (opt 1 rfl)) rfl)⟩, ⟨rfl, fun β => (GOk.plain (op_assign (opt 0 rfl)) rfl)⟩, trivial⟩
  clear h
  intro β a w h
  change SatL c [.slot 2 (strVP (r1 ++ a_0))] a w at h
  clear β
  show Code.wp Tryd.prog _ _ a w
  refine wp_ret ?_
  obtain rfl := Option.some.inj hF
  exact ⟨.inl rfl, ret1 h Tryd.results57 (r_tmp 0 rfl) [] [] rfl rfl rfl⟩

def ref01_turn (a_0 : Int) (a_1 : Int) : Option Int := some (bits .or .u32 (shr .u32 a_0 a_1) (shl .u32 a_0 (IntKind.wrap .u64 (32 - a_1))))
theorem ref01_turn_ok {a_0 : Int} {a_1 : Int} {r : Int} (hF : ref01_turn a_0 a_1 = some r) : CallOk Tryd.prog KG 75 [(intVP .u32 a_0), (intVP .u64 a_1)] [] (fun _ => []) (intVP .u32 r) := by
  refine CallOk.intro 13 Tryd.func75 rfl Tryd.ntmps75 (Nat.le_of_ble_eq_true rfl) ?_
  intro c a w hG hn h
  unfold ref01_turn at hF
  change SatL c [.slot 0 (intVP .u32 a_0), .slot 1 (intVP .u64 a_1)] a w at h
  refine wp_seq ?_
  refine region_do (n := 13) [.slot 4 100000 100000 (fun _ _ => (intVP .u32 0))] [0] [⟨[], [], [2], [], some 4⟩] [0, 1] mixed hn hG h (by kernel_rfl) ?_ ?_
  · exact ⟨⟨rfl, fun β => (GOk.plain (op_assign (opc (ic (by decide)))) rfl)⟩, trivial⟩
  clear h
  intro β a w h
  change SatL c [.slot 0 (intVP .u32 a_0), .slot 1 (intVP .u64 a_1)] a w at h
  clear β
  show Code.wp Tryd.prog _ _ a w
  refine wp_seq ?_
  refine region_do (n := 13) [.slot 5 100000 100000 (fun _ _ => (intVP .u32 a_0)),
      .slot 6 100000 100000 (fun _ _ => (intVP .u64 a_1)),
      .slot 7 100000 100000 (fun _ _ => (intVP .u32 (shr .u32 a_0 a_1))),
      .slot 8 100000 100000 (fun _ _ => (intVP .u32 a_0)),
      .slot 9 100000 100000 (fun _ _ => (intVP .u64 a_1)),
      .slot 10 100000 100000 (fun _ _ => (intVP .u64 (IntKind.wrap .u64 (32 - a_1)))),
      .slot 11 100000 100000 (fun _ _ => (intVP .u32 (shl .u32 a_0 (IntKind.wrap .u64 (32 - a_1))))),
      .slot 12 100000 100000 (fun _ _ => (intVP .u32 (bits .or .u32 (shr .u32 a_0 a_1) (shl .u32 a_0 (IntKind.wrap .u64 (32 - a_1)))))),
      .slot 4 100000 100000 (fun _ _ => (intVP .u32 (bits .or .u32 (shr .u32 a_0 a_1) (shl .u32 a_0 (IntKind.wrap .u64 (32 - a_1))))))] [0, 1, 2, 3, 4, 5, 6, 7, 8] [⟨[0], [], [2], [], some 5⟩, ⟨[1], [], [3], [0], some 6⟩, ⟨[2, 3], [], [4], [0, 1], some 7⟩, ⟨[0], [], [5], [0, 1, 2], some 8⟩, ⟨[1], [], [6], [0, 1, 2, 3], some 9⟩, ⟨[6], [], [7], [0, 1, 2, 3, 4], some 10⟩, ⟨[5, 7], [], [8], [0, 1, 2, 3, 4, 5], some 11⟩, ⟨[4, 8], [], [9], [0, 1, 2, 3, 4, 5, 6], some 12⟩, ⟨[9], [], [10], [0, 1, 2, 3, 4, 5, 6, 7], some 4⟩] [10] mixed hn hG h (by kernel_rfl) ?_ ?_
  · exact ⟨⟨rfl, fun β => (GOk.plain (op_move (opt 0 rfl)) rfl)⟩, ⟨rfl, fun β => (GOk.plain (op_move (opt 0 rfl)) rfl)⟩, ⟨rfl, fun β => (GOk.plain (op_bin (bin_shru rfl) (opt 0 rfl) (opt 1 rfl)) rfl)⟩, ⟨rfl, fun β => (GOk.plain (op_move (opt 0 rfl)) rfl)⟩, ⟨rfl, fun β => (GOk.plain (op_move (opt 0 rfl)) rfl)⟩, ⟨rfl, fun β => (GOk.plain (op_bin bin_sub (opc (ic (by decide))) (opt 0 rfl)) rfl)⟩, ⟨rfl, fun β => (GOk.plain (op_bin (bin_shlu rfl) (opt 0 rfl) (opt 1 rfl)) rfl)⟩, ⟨rfl, fun β => (GOk.plain (op_bin bin_or (opt 0 rfl) (opt 1 rfl)) rfl)⟩, ⟨rfl, fun β => (GOk.plain (op_assign (opt 0 rfl)) rfl)⟩, trivial⟩
  clear h
  intro β a w h
  change SatL c [.slot 4 (intVP .u32 (bits .or .u32 (shr .u32 a_0 a_1) (shl .u32 a_0 (IntKind.wrap .u64 (32 - a_1)))))] a w at h
  clear β
  show Code.wp Tryd.prog _ _ a w
  refine wp_ret ?_
  obtain rfl := Option.some.inj hF
  exact ⟨.inl rfl, ret1 h Tryd.results75 (r_tmp 0 rfl) [] [] rfl rfl rfl⟩

def ref01_First : Option (List Int) := some ([1779033703, 3144134277, 1013904242, 2773480762, 1359893119, 2600822924, 528734635, 1541459225] ++ List.replicate (8 - 8) 0)
theorem ref01_First_ok {r : (List Int)} (hF : ref01_First = some r) : CallOk Tryd.prog KG 59 [] [] (fun _ => []) (aggVP [intsCk .u32 8 r]) := by
  refine CallOk.intro 2 Tryd.func59 rfl Tryd.ntmps59 (Nat.le_of_ble_eq_true rfl) ?_
  intro c a w hG hn h
  unfold ref01_First at hF
  change SatL c [] a w at h
  refine wp_seq ?_
  refine region_do (n := 2) [.slot 0 0 100000 (fun v1_ _ => (lpVP v1_ 0)),
      .res 0 100000 (fun v1_ _ => (lb (v1_) 85 [intsCk .u32 8 (List.replicate 8 0)]))] [0, 0] [⟨[], [], [0, 1], [], some 0⟩] [0, 1] mixed hn hG h (by kernel_rfl) ?_ ?_
  · exact ⟨⟨rfl, fun β => (GOk.plain (op_alloc Tryd.zeroValue85 z85) rfl)⟩, trivial⟩
  clear h
  intro β a w h
  change SatL c [.slot 0 (lpVP (β 0) 0), .res (lb (β 0) 85 [intsCk .u32 8 (List.replicate 8 0)])] a w at h
  generalize β 0 = p1 at h
  clear β
  show Code.wp Tryd.prog _ _ a w
  refine wp_seq ?_
  refine region_do (n := 2) [.slot 1 100000 100000 (fun _ _ => (aggVP [intsCk .u32 8 ([1779033703, 3144134277, 1013904242, 2773480762, 1359893119, 2600822924, 528734635, 1541459225] ++ List.replicate (8 - 8) 0)])),
      .res 100000 100000 (fun _ _ => (lb p1 85 [intsCk .u32 8 ([1779033703, 3144134277, 1013904242, 2773480762, 1359893119, 2600822924, 528734635, 1541459225] ++ List.replicate (8 - 8) 0)]))] [0, 1] [⟨[], [], [2], [], some 1⟩, ⟨[0, 2], [1], [3], [0], none⟩] [0, 3] mixed hn hG h (by kernel_rfl) ?_ ?_
  · exact ⟨⟨rfl, fun β => (GOk.plain (op_buildI (xs := [.const (.int .u32 1779033703), .const (.int .u32 3144134277), .const (.int .u32 1013904242), .const (.int .u32 2773480762), .const (.int .u32 1359893119), .const (.int .u32 2600822924), .const (.int .u32 528734635), .const (.int .u32 1541459225)]) (ys := [1779033703, 3144134277, 1013904242, 2773480762, 1359893119, 2600822924, 528734635, 1541459225]) rfl bu85 ⟨⟨_, (opc (ic (by decide))), (cells_one (one_int _ _))⟩, ⟨_, (opc (ic (by decide))), (cells_one (one_int _ _))⟩, ⟨_, (opc (ic (by decide))), (cells_one (one_int _ _))⟩, ⟨_, (opc (ic (by decide))), (cells_one (one_int _ _))⟩, ⟨_, (opc (ic (by decide))), (cells_one (one_int _ _))⟩, ⟨_, (opc (ic (by decide))), (cells_one (one_int _ _))⟩, ⟨_, (opc (ic (by decide))), (cells_one (one_int _ _))⟩, ⟨_, (opc (ic (by decide))), (cells_one (one_int _ _))⟩, trivial⟩ (by decide) rfl) rfl)⟩, ⟨rfl, fun β => (GOk.plain (op_store_lb [] [intsCk .u32 8 (List.replicate 8 0)] [] [intsCk .u32 8 ([1779033703, 3144134277, 1013904242, 2773480762, 1359893119, 2600822924, 528734635, 1541459225] ++ List.replicate (8 - 8) 0)] Tryd.sizeOf85 (opt 0 rfl) (opt 1 rfl) (cells_agg _) rfl rfl rfl) rfl)⟩, trivial⟩
  clear h
  intro β a w h
  change SatL c [.slot 0 (lpVP p1 0), .res (lb p1 85 [intsCk .u32 8 ([1779033703, 3144134277, 1013904242, 2773480762, 1359893119, 2600822924, 528734635, 1541459225] ++ List.replicate (8 - 8) 0)])] a w at h
  clear β
  show Code.wp Tryd.prog _ _ a w
  refine wp_ret ?_
  obtain rfl := Option.some.inj hF
  exact ⟨.inl rfl, ret1 h Tryd.results59 (r_cell 0 1 rfl rfl Tryd.isAgg85 Tryd.sizeOf85 rfl) [] [] rfl rfl rfl⟩

def ref01_constants : Option (List Int) := some ([1116352408, 1899447441, 3049323471, 3921009573, 961987163, 1508970993, 2453635748, 2870763221, 3624381080, 310598401, 607225278, 1426881987, 1925078388, 2162078206, 2614888103, 3248222580, 3835390401, 4022224774, 264347078, 604807628, 770255983, 1249150122, 1555081692, 1996064986, 2554220882, 2821834349, 2952996808, 3210313671, 3336571891, 3584528711, 113926993, 338241895, 666307205, 773529912, 1294757372, 1396182291, 1695183700, 1986661051, 2177026350, 2456956037, 2730485921, 2820302411, 3259730800, 3345764771, 3516065817, 3600352804, 4094571909, 275423344, 430227734, 506948616, 659060556, 883997877, 958139571, 1322822218, 1537002063, 1747873779, 1955562222, 2024104815, 2227730452, 2361852424, 2428436474, 2756734187, 3204031479, 3329325298] ++ List.replicate (64 - 64) 0)
theorem ref01_constants_ok {r : (List Int)} (hF : ref01_constants = some r) : CallOk Tryd.prog KG 74 [] [] (fun _ => []) (aggVP [intsCk .u32 64 r]) := by
  refine CallOk.intro 2 Tryd.func74 rfl Tryd.ntmps74 (Nat.le_of_ble_eq_true rfl) ?_
  intro c a w hG hn h
  unfold ref01_constants at hF
  change SatL c [] a w at h
  refine wp_seq ?_
  refine region_do (n := 2) [.slot 0 0 100000 (fun v1_ _ => (lpVP v1_ 0)),
      .res 0 100000 (fun v1_ _ => (lb (v1_) 111 [intsCk .u32 64 (List.replicate 64 0)]))] [0, 0] [⟨[], [], [0, 1], [], some 0⟩] [0, 1] mixed hn hG h (by kernel_rfl) ?_ ?_
  · exact ⟨⟨rfl, fun β => (GOk.plain (op_alloc Tryd.zeroValue111 z111) rfl)⟩, trivial⟩
  clear h
  intro β a w h
  change SatL c [.slot 0 (lpVP (β 0) 0), .res (lb (β 0) 111 [intsCk .u32 64 (List.replicate 64 0)])] a w at h
  generalize β 0 = p1 at h
  clear β
  show Code.wp Tryd.prog _ _ a w
  refine wp_seq ?_
  refine region_do (n := 2) [.slot 1 100000 100000 (fun _ _ => (aggVP [intsCk .u32 64 ([1116352408, 1899447441, 3049323471, 3921009573, 961987163, 1508970993, 2453635748, 2870763221, 3624381080, 310598401, 607225278, 1426881987, 1925078388, 2162078206, 2614888103, 3248222580, 3835390401, 4022224774, 264347078, 604807628, 770255983, 1249150122, 1555081692, 1996064986, 2554220882, 2821834349, 2952996808, 3210313671, 3336571891, 3584528711, 113926993, 338241895, 666307205, 773529912, 1294757372, 1396182291, 1695183700, 1986661051, 2177026350, 2456956037, 2730485921, 2820302411, 3259730800, 3345764771, 3516065817, 3600352804, 4094571909, 275423344, 430227734, 506948616, 659060556, 883997877, 958139571, 1322822218, 1537002063, 1747873779, 1955562222, 2024104815, 2227730452, 2361852424, 2428436474, 2756734187, 3204031479, 3329325298] ++ List.replicate (64 - 64) 0)])),
      .res 100000 100000 (fun _ _ => (lb p1 111 [intsCk .u32 64 ([1116352408, 1899447441, 3049323471, 3921009573, 961987163, 1508970993, 2453635748, 2870763221, 3624381080, 310598401, 607225278, 1426881987, 1925078388, 2162078206, 2614888103, 3248222580, 3835390401, 4022224774, 264347078, 604807628, 770255983, 1249150122, 1555081692, 1996064986, 2554220882, 2821834349, 2952996808, 3210313671, 3336571891, 3584528711, 113926993, 338241895, 666307205, 773529912, 1294757372, 1396182291, 1695183700, 1986661051, 2177026350, 2456956037, 2730485921, 2820302411, 3259730800, 3345764771, 3516065817, 3600352804, 4094571909, 275423344, 430227734, 506948616, 659060556, 883997877, 958139571, 1322822218, 1537002063, 1747873779, 1955562222, 2024104815, 2227730452, 2361852424, 2428436474, 2756734187, 3204031479, 3329325298] ++ List.replicate (64 - 64) 0)]))] [0, 1] [⟨[], [], [2], [], some 1⟩, ⟨[0, 2], [1], [3], [0], none⟩] [0, 3] mixed hn hG h (by kernel_rfl) ?_ ?_
  · exact ⟨⟨rfl, fun β => (GOk.plain (op_buildI (xs := [.const (.int .u32 1116352408), .const (.int .u32 1899447441), .const (.int .u32 3049323471), .const (.int .u32 3921009573), .const (.int .u32 961987163), .const (.int .u32 1508970993), .const (.int .u32 2453635748), .const (.int .u32 2870763221), .const (.int .u32 3624381080), .const (.int .u32 310598401), .const (.int .u32 607225278), .const (.int .u32 1426881987), .const (.int .u32 1925078388), .const (.int .u32 2162078206), .const (.int .u32 2614888103), .const (.int .u32 3248222580), .const (.int .u32 3835390401), .const (.int .u32 4022224774), .const (.int .u32 264347078), .const (.int .u32 604807628), .const (.int .u32 770255983), .const (.int .u32 1249150122), .const (.int .u32 1555081692), .const (.int .u32 1996064986), .const (.int .u32 2554220882), .const (.int .u32 2821834349), .const (.int .u32 2952996808), .const (.int .u32 3210313671), .const (.int .u32 3336571891), .const (.int .u32 3584528711), .const (.int .u32 113926993), .const (.int .u32 338241895), .const (.int .u32 666307205), .const (.int .u32 773529912), .const (.int .u32 1294757372), .const (.int .u32 1396182291), .const (.int .u32 1695183700), .const (.int .u32 1986661051), .const (.int .u32 2177026350), .const (.int .u32 2456956037), .const (.int .u32 2730485921), .const (.int .u32 2820302411), .const (.int .u32 3259730800), .const (.int .u32 3345764771), .const (.int .u32 3516065817), .const (.int .u32 3600352804), .const (.int .u32 4094571909), .const (.int .u32 275423344), .const (.int .u32 430227734), .const (.int .u32 506948616), .const (.int .u32 659060556), .const (.int .u32 883997877), .const (.int .u32 958139571), .const (.int .u32 1322822218), .const (.int .u32 1537002063), .const (.int .u32 1747873779), .const (.int .u32 1955562222), .const (.int .u32 2024104815), .const (.int .u32 2227730452), .const (.int .u32 2361852424), .const (.int .u32 2428436474), .const (.int .u32 2756734187), .const (.int .u32 3204031479), .const (.int .u32 3329325298)]) (ys := [1116352408, 1899447441, 3049323471, 3921009573, 961987163, 1508970993, 2453635748, 2870763221, 3624381080, 310598401, 607225278, 1426881987, 1925078388, 2162078206, 2614888103, 3248222580, 3835390401, 4022224774, 264347078, 604807628, 770255983, 1249150122, 1555081692, 1996064986, 2554220882, 2821834349, 2952996808, 3210313671, 3336571891, 3584528711, 113926993, 338241895, 666307205, 773529912, 1294757372, 1396182291, 1695183700, 1986661051, 2177026350, 2456956037, 2730485921, 2820302411, 3259730800, 3345764771, 3516065817, 3600352804, 4094571909, 275423344, 430227734, 506948616, 659060556, 883997877, 958139571, 1322822218, 1537002063, 1747873779, 1955562222, 2024104815, 2227730452, 2361852424, 2428436474, 2756734187, 3204031479, 3329325298]) rfl bu111 ⟨⟨_, (opc (ic (by decide))), (cells_one (one_int _ _))⟩, ⟨_, (opc (ic (by decide))), (cells_one (one_int _ _))⟩, ⟨_, (opc (ic (by decide))), (cells_one (one_int _ _))⟩, ⟨_, (opc (ic (by decide))), (cells_one (one_int _ _))⟩, ⟨_, (opc (ic (by decide))), (cells_one (one_int _ _))⟩, ⟨_, (opc (ic (by decide))), (cells_one (one_int _ _))⟩, ⟨_, (opc (ic (by decide))), (cells_one (one_int _ _))⟩, ⟨_, (opc (ic (by decide))), (cells_one (one_int _ _))⟩, ⟨_, (opc (ic (by decide))), (cells_one (one_int _ _))⟩, ⟨_, (opc (ic (by decide))), (cells_one (one_int _ _))⟩, ⟨_, (opc (ic (by decide))), (cells_one (one_int _ _))⟩, ⟨_, (opc (ic (by decide))), (cells_one (one_int _ _))⟩, ⟨_, (opc (ic (by decide))), (cells_one (one_int _ _))⟩, ⟨_, (opc (ic (by decide))), (cells_one (one_int _ _))⟩, ⟨_, (opc (ic (by decide))), (cells_one (one_int _ _))⟩, ⟨_, (opc (ic (by decide))), (cells_one (one_int _ _))⟩, ⟨_, (opc (ic (by decide))), (cells_one (one_int _ _))⟩, ⟨_, (opc (ic (by decide))), (cells_one (one_int _ _))⟩, ⟨_, (opc (ic (by decide))), (cells_one (one_int _ _))⟩, ⟨_, (opc (ic (by decide))), (cells_one (one_int _ _))⟩, ⟨_, (opc (ic (by decide))), (cells_one (one_int _ _))⟩, ⟨_, (opc (ic (by decide))), (cells_one (one_int _ _))⟩, ⟨_, (opc (ic (by decide))), (cells_one (one_int _ _))⟩, ⟨_, (opc (ic (by decide))), (cells_one (one_int _ _))⟩, ⟨_, (opc (ic (by decide))), (cells_one (one_int _ _))⟩, ⟨_, (opc (ic (by decide))), (cells_one (one_int _ _))⟩, ⟨_, (opc (ic (by decide))), (cells_one (one_int _ _))⟩, ⟨_, (opc (ic (by decide))), (cells_one (one_int _ _))⟩, ⟨_, (opc (ic (by decide))), (cells_one (one_int _ _))⟩, ⟨_, (opc (ic (by decide))), (cells_one (one_int _ _))⟩, ⟨_, (opc (ic (by decide))), (cells_one (one_int _ _))⟩, ⟨_, (opc (ic (by decide))), (cells_one (one_int _ _))⟩, ⟨_, (opc (ic (by decide))), (cells_one (one_int _ _))⟩, ⟨_, (opc (ic (by decide))), (cells_one (one_int _ _))⟩, ⟨_, (opc (ic (by decide))), (cells_one (one_int _ _))⟩, ⟨_, (opc (ic (by decide))), (cells_one (one_int _ _))⟩, ⟨_, (opc (ic (by decide))), (cells_one (one_int _ _))⟩, ⟨_, (opc (ic (by decide))), (cells_one (one_int _ _))⟩, ⟨_, (opc (ic (by decide))), (cells_one (one_int _ _))⟩, ⟨_, (opc (ic (by decide))), (cells_one (one_int _ _))⟩, ⟨_, (opc (ic (by decide))), (cells_one (one_int _ _))⟩, ⟨_, (opc (ic (by decide))), (cells_one (one_int _ _))⟩, ⟨_, (opc (ic (by decide))), (cells_one (one_int _ _))⟩, ⟨_, (opc (ic (by decide))), (cells_one (one_int _ _))⟩, ⟨_, (opc (ic (by decide))), (cells_one (one_int _ _))⟩, ⟨_, (opc (ic (by decide))), (cells_one (one_int _ _))⟩, ⟨_, (opc (ic (by decide))), (cells_one (one_int _ _))⟩, ⟨_, (opc (ic (by decide))), (cells_one (one_int _ _))⟩, ⟨_, (opc (ic (by decide))), (cells_one (one_int _ _))⟩, ⟨_, (opc (ic (by decide))), (cells_one (one_int _ _))⟩, ⟨_, (opc (ic (by decide))), (cells_one (one_int _ _))⟩, ⟨_, (opc (ic (by decide))), (cells_one (one_int _ _))⟩, ⟨_, (opc (ic (by decide))), (cells_one (one_int _ _))⟩, ⟨_, (opc (ic (by decide))), (cells_one (one_int _ _))⟩, ⟨_, (opc (ic (by decide))), (cells_one (one_int _ _))⟩, ⟨_, (opc (ic (by decide))), (cells_one (one_int _ _))⟩, ⟨_, (opc (ic (by decide))), (cells_one (one_int _ _))⟩, ⟨_, (opc (ic (by decide))), (cells_one (one_int _ _))⟩, ⟨_, (opc (ic (by decide))), (cells_one (one_int _ _))⟩, ⟨_, (opc (ic (by decide))), (cells_one (one_int _ _))⟩, ⟨_, (opc (ic (by decide))), (cells_one (one_int _ _))⟩, ⟨_, (opc (ic (by decide))), (cells_one (one_int _ _))⟩, ⟨_, (opc (ic (by decide))), (cells_one (one_int _ _))⟩, ⟨_, (opc (ic (by decide))), (cells_one (one_int _ _))⟩, trivial⟩ (by decide) rfl) rfl)⟩, ⟨rfl, fun β => (GOk.plain (op_store_lb [] [intsCk .u32 64 (List.replicate 64 0)] [] [intsCk .u32 64 ([1116352408, 1899447441, 3049323471, 3921009573, 961987163, 1508970993, 2453635748, 2870763221, 3624381080, 310598401, 607225278, 1426881987, 1925078388, 2162078206, 2614888103, 3248222580, 3835390401, 4022224774, 264347078, 604807628, 770255983, 1249150122, 1555081692, 1996064986, 2554220882, 2821834349, 2952996808, 3210313671, 3336571891, 3584528711, 113926993, 338241895, 666307205, 773529912, 1294757372, 1396182291, 1695183700, 1986661051, 2177026350, 2456956037, 2730485921, 2820302411, 3259730800, 3345764771, 3516065817, 3600352804, 4094571909, 275423344, 430227734, 506948616, 659060556, 883997877, 958139571, 1322822218, 1537002063, 1747873779, 1955562222, 2024104815, 2227730452, 2361852424, 2428436474, 2756734187, 3204031479, 3329325298] ++ List.replicate (64 - 64) 0)] Tryd.sizeOf111 (opt 0 rfl) (opt 1 rfl) (cells_agg _) rfl rfl rfl) rfl)⟩, trivial⟩
  clear h
  intro β a w h
  change SatL c [.slot 0 (lpVP p1 0), .res (lb p1 111 [intsCk .u32 64 ([1116352408, 1899447441, 3049323471, 3921009573, 961987163, 1508970993, 2453635748, 2870763221, 3624381080, 310598401, 607225278, 1426881987, 1925078388, 2162078206, 2614888103, 3248222580, 3835390401, 4022224774, 264347078, 604807628, 770255983, 1249150122, 1555081692, 1996064986, 2554220882, 2821834349, 2952996808, 3210313671, 3336571891, 3584528711, 113926993, 338241895, 666307205, 773529912, 1294757372, 1396182291, 1695183700, 1986661051, 2177026350, 2456956037, 2730485921, 2820302411, 3259730800, 3345764771, 3516065817, 3600352804, 4094571909, 275423344, 430227734, 506948616, 659060556, 883997877, 958139571, 1322822218, 1537002063, 1747873779, 1955562222, 2024104815, 2227730452, 2361852424, 2428436474, 2756734187, 3204031479, 3329325298] ++ List.replicate (64 - 64) 0)])] a w at h
  clear β
  show Code.wp Tryd.prog _ _ a w
  refine wp_ret ?_
  obtain rfl := Option.some.inj hF
  exact ⟨.inl rfl, ret1 h Tryd.results74 (r_cell 0 1 rfl rfl Tryd.isAgg111 Tryd.sizeOf111 rfl) [] [] rfl rfl rfl⟩

def ref01_Block.b1 (a_1 : List (UInt8)) (x12 : Int) (x13 : List Int) : Option (Flow (List Int) (Int × (List Int))) := (if (decide (x12 < (16 : Int))) = true then (if (0 : Int) ≤ IntKind.wrap .i64 (4 * x12) ∧ IntKind.wrap .i64 (4 * x12) < a_1.length then (if (0 : Int) ≤ IntKind.wrap .i64 ((IntKind.wrap .i64 (4 * x12)) + 1) ∧ IntKind.wrap .i64 ((IntKind.wrap .i64 (4 * x12)) + 1) < a_1.length then (if (0 : Int) ≤ IntKind.wrap .i64 ((IntKind.wrap .i64 (4 * x12)) + 2) ∧ IntKind.wrap .i64 ((IntKind.wrap .i64 (4 * x12)) + 2) < a_1.length then (if (0 : Int) ≤ IntKind.wrap .i64 ((IntKind.wrap .i64 (4 * x12)) + 3) ∧ IntKind.wrap .i64 ((IntKind.wrap .i64 (4 * x12)) + 3) < a_1.length then (if (0 : Int) ≤ x12 ∧ x12 < 64 then some (.cont (IntKind.wrap .i64 (x12 + 1), x13.set x12.toNat (IntKind.wrap .u32 ((IntKind.wrap .u32 ((IntKind.wrap .u32 ((IntKind.wrap .u32 ((IntKind.wrap .u32 ((a_1.getD (IntKind.wrap .i64 (4 * x12)).toNat default).toNat)) * 16777216)) + (IntKind.wrap .u32 ((IntKind.wrap .u32 ((a_1.getD (IntKind.wrap .i64 ((IntKind.wrap .i64 (4 * x12)) + 1)).toNat default).toNat)) * 65536)))) + (IntKind.wrap .u32 ((IntKind.wrap .u32 ((a_1.getD (IntKind.wrap .i64 ((IntKind.wrap .i64 (4 * x12)) + 2)).toNat default).toNat)) * 256)))) + (IntKind.wrap .u32 ((a_1.getD (IntKind.wrap .i64 ((IntKind.wrap .i64 (4 * x12)) + 3)).toNat default).toNat)))))) else none) else none) else none) else none) else none) else some (.brk (x12, x13)))
def ref01_Block.b2 (x43 : Int) (x44 : List Int) : Option (Flow (List Int) (Int × (List Int))) := (if (decide (x43 < (64 : Int))) = true then (if (0 : Int) ≤ IntKind.wrap .i64 (x43 - 15) ∧ IntKind.wrap .i64 (x43 - 15) < 64 then ((ref01_turn (x44.getD (IntKind.wrap .i64 (x43 - 15)).toNat 0) 7).bind fun r59 => ((ref01_turn (x44.getD (IntKind.wrap .i64 (x43 - 15)).toNat 0) 18).bind fun r60 => (if (0 : Int) ≤ IntKind.wrap .i64 (x43 - 2) ∧ IntKind.wrap .i64 (x43 - 2) < 64 then ((ref01_turn (x44.getD (IntKind.wrap .i64 (x43 - 2)).toNat 0) 17).bind fun r62 => ((ref01_turn (x44.getD (IntKind.wrap .i64 (x43 - 2)).toNat 0) 19).bind fun r63 => (if (0 : Int) ≤ IntKind.wrap .i64 (x43 - 16) ∧ IntKind.wrap .i64 (x43 - 16) < 64 then (if (0 : Int) ≤ IntKind.wrap .i64 (x43 - 7) ∧ IntKind.wrap .i64 (x43 - 7) < 64 then (if (0 : Int) ≤ x43 ∧ x43 < 64 then some (.cont (IntKind.wrap .i64 (x43 + 1), x44.set x43.toNat (IntKind.wrap .u32 ((IntKind.wrap .u32 ((IntKind.wrap .u32 ((x44.getD (IntKind.wrap .i64 (x43 - 16)).toNat 0) + (bits .xor .u32 (bits .xor .u32 r59 r60) (shr .u32 (x44.getD (IntKind.wrap .i64 (x43 - 15)).toNat 0) 3)))) + (x44.getD (IntKind.wrap .i64 (x43 - 7)).toNat 0))) + (bits .xor .u32 (bits .xor .u32 r62 r63) (shr .u32 (x44.getD (IntKind.wrap .i64 (x43 - 2)).toNat 0) 10)))))) else none) else none) else none))) else none))) else none) else some (.brk (x43, x44)))
def ref01_Block.b3 (r4 : (List Int)) (y72 : List Int) (x80 : Int) (x81 : Int) (x82 : Int) (x83 : Int) (x84 : Int) (x85 : Int) (x86 : Int) (x87 : Int) (x88 : Int) : Option (Flow (List Int) (Int × Int × Int × Int × Int × Int × Int × Int × Int)) := (if (decide (x88 < (64 : Int))) = true then ((ref01_turn x84 6).bind fun r107 => ((ref01_turn x84 11).bind fun r108 => ((ref01_turn x84 25).bind fun r109 => (if (0 : Int) ≤ x88 ∧ x88 < 64 then ((ref01_turn x80 2).bind fun r111 => ((ref01_turn x80 13).bind fun r112 => ((ref01_turn x80 22).bind fun r113 => some (.cont (IntKind.wrap .u32 ((IntKind.wrap .u32 ((IntKind.wrap .u32 ((IntKind.wrap .u32 ((IntKind.wrap .u32 (x87 + (bits .xor .u32 (bits .xor .u32 r107 r108) r109))) + (bits .xor .u32 (bits .and .u32 x84 x85) (bits .and .u32 (bits .xor .u32 4294967295 x84) x86)))) + (r4.getD x88.toNat 0))) + (y72.getD x88.toNat 0))) + (IntKind.wrap .u32 ((bits .xor .u32 (bits .xor .u32 r111 r112) r113) + (bits .xor .u32 (bits .xor .u32 (bits .and .u32 x80 x81) (bits .and .u32 x80 x82)) (bits .and .u32 x81 x82))))), x80, x81, x82, IntKind.wrap .u32 (x83 + (IntKind.wrap .u32 ((IntKind.wrap .u32 ((IntKind.wrap .u32 ((IntKind.wrap .u32 (x87 + (bits .xor .u32 (bits .xor .u32 r107 r108) r109))) + (bits .xor .u32 (bits .and .u32 x84 x85) (bits .and .u32 (bits .xor .u32 4294967295 x84) x86)))) + (r4.getD x88.toNat 0))) + (y72.getD x88.toNat 0)))), x84, x85, x86, IntKind.wrap .i64 (x88 + 1)))))) else none)))) else some (.brk (x80, x81, x82, x83, x84, x85, x86, x87, x88)))
def ref01_Block (a_0 : List Int) (a_1 : List (UInt8)) : Option (List Int) := (if (!decide ((a_1.length : Int) = (64 : Int))) = true then some a_0 else ((ref01_constants).bind fun r4 => ((loopN (fun s : Int × (List Int) => ref01_Block.b1 a_1 s.1 s.2) ((16 - 0 : Int).toNat + 2) (0, (List.replicate 64 0))).bind fun cr => match cr with | .ret r => some r | .next (y32, y33) => ((loopN (fun s : Int × (List Int) => ref01_Block.b2 s.1 s.2) ((64 - 16 : Int).toNat + 2) (16, y33)).bind fun cr => match cr with | .ret r => some r | .next (y71, y72) => ((loopN (fun s : Int × Int × Int × Int × Int × Int × Int × Int × Int => ref01_Block.b3 r4 y72 s.1 s.2.1 s.2.2.1 s.2.2.2.1 s.2.2.2.2.1 s.2.2.2.2.2.1 s.2.2.2.2.2.2.1 s.2.2.2.2.2.2.2.1 s.2.2.2.2.2.2.2.2) ((64 - 0 : Int).toNat + 2) (a_0.getD (0 : Int).toNat 0, a_0.getD (1 : Int).toNat 0, a_0.getD (2 : Int).toNat 0, a_0.getD (3 : Int).toNat 0, a_0.getD (4 : Int).toNat 0, a_0.getD (5 : Int).toNat 0, a_0.getD (6 : Int).toNat 0, a_0.getD (7 : Int).toNat 0, 0)).bind fun cr => match cr with | .ret r => some r | .next (y118, y119, y120, y121, y122, y123, y124, y125, y126) => some ([IntKind.wrap .u32 ((a_0.getD (0 : Int).toNat 0) + y118), IntKind.wrap .u32 ((a_0.getD (1 : Int).toNat 0) + y119), IntKind.wrap .u32 ((a_0.getD (2 : Int).toNat 0) + y120), IntKind.wrap .u32 ((a_0.getD (3 : Int).toNat 0) + y121), IntKind.wrap .u32 ((a_0.getD (4 : Int).toNat 0) + y122), IntKind.wrap .u32 ((a_0.getD (5 : Int).toNat 0) + y123), IntKind.wrap .u32 ((a_0.getD (6 : Int).toNat 0) + y124), IntKind.wrap .u32 ((a_0.getD (7 : Int).toNat 0) + y125)] ++ List.replicate (8 - 8) 0))))))
set_option maxHeartbeats 4000000 in
theorem ref01_Block_ok {a_0 : List Int} {a_1 : List (UInt8)} {r : (List Int)} (hF : ref01_Block a_0 a_1 = some r) : CallOk Tryd.prog KG 66 [(aggVP [intsCk .u32 8 a_0]), (slVP bC a_1)] [] (fun _ => []) (aggVP [intsCk .u32 8 r]) := by
  refine CallOk.intro 231 Tryd.func66 rfl Tryd.ntmps66 (Nat.le_of_ble_eq_true rfl) ?_
  intro c a w hG hn h
  unfold ref01_Block at hF
  change SatL c [.slot 0 (aggVP [intsCk .u32 8 a_0]), .slot 1 (slVP bC a_1)] a w at h
  refine wp_seq ?_
  refine region_do (n := 231) [.slot 2 0 100000 (fun v1_ _ => (lpVP v1_ 0)),
      .res 0 100000 (fun v1_ _ => (lb (v1_) 85 [intsCk .u32 8 a_0])),
      .slot 4 1 100000 (fun v1_ _ => (lpVP v1_ 0)),
      .res 1 100000 (fun v1_ _ => (lb (v1_) 85 [intsCk .u32 8 (List.replicate 8 0)]))] [0, 0, 1, 1] [⟨[0], [], [2, 3], [], some 2⟩, ⟨[], [], [4, 5], [0], some 4⟩] [1, 2, 4, 3, 5] mixed hn hG h (by kernel_rfl) ?_ ?_
  · exact ⟨⟨rfl, fun β => (GOk.plain (op_box (opt 0 rfl) (cells_agg _)) rfl)⟩, ⟨rfl, fun β => (GOk.plain (op_alloc Tryd.zeroValue85 z85) rfl)⟩, trivial⟩
  clear h
  intro β a w h
  change SatL c [.slot 1 (slVP bC a_1), .slot 2 (lpVP (β 0) 0), .slot 4 (lpVP (β 1) 0), .res (lb (β 0) 85 [intsCk .u32 8 a_0]), .res (lb (β 1) 85 [intsCk .u32 8 (List.replicate 8 0)])] a w at h
  generalize β 0 = p1 at h
  generalize β 1 = p2 at h
  clear β
  show Code.wp Tryd.prog _ _ a w
  refine wp_seq ?_
  refine wp_seq ?_
  refine region_do (n := 231) [.slot 22 100000 100000 (fun _ _ => (slVP bC a_1)),
      .slot 23 100000 100000 (fun _ _ => (intVP .i64 (a_1.length : Int))),
      .slot 24 100000 100000 (fun _ _ => (boolVP (!decide ((a_1.length : Int) = (64 : Int)))))] [0, 1, 2] [⟨[0], [], [5], [], some 22⟩, ⟨[5], [], [6], [0], some 23⟩, ⟨[6], [], [7], [0, 1], some 24⟩] [0, 1, 2, 7, 3, 4] mixed hn hG h (by kernel_rfl) ?_ ?_
  · exact ⟨⟨rfl, fun β => (GOk.plain (op_move (opt 0 rfl)) rfl)⟩, ⟨rfl, fun β => (GOk.plain (op_len_sl Tryd.underlying79 (opt 0 rfl)) rfl)⟩, ⟨rfl, fun β => (GOk.plain (op_bin bin_neq (opt 0 rfl) (opc (ic (by decide)))) rfl)⟩, trivial⟩
  clear h
  intro β a w h
  change SatL c [.slot 1 (slVP bC a_1), .slot 2 (lpVP p1 0), .slot 4 (lpVP p2 0), .slot 24 (boolVP (!decide ((a_1.length : Int) = (64 : Int)))), .res (lb p1 85 [intsCk .u32 8 a_0]), .res (lb p2 85 [intsCk .u32 8 (List.replicate 8 0)])] a w at h
  clear β
  show Code.wp Tryd.prog _ _ a w
  refine cond_L h 3 rfl (fun hb3 => ?_) (fun hb3 => ?_)
  · replace hF := tt_of hb3 hF
    replace h := h.sub [1, 2, 4, 5] (by rfl)
    change SatL c [.slot 2 (lpVP p1 0), .slot 4 (lpVP p2 0), .res (lb p1 85 [intsCk .u32 8 a_0]), .res (lb p2 85 [intsCk .u32 8 (List.replicate 8 0)])] a w at h
    refine wp_seq ?_
    refine region_do (n := 231) [.slot 25 100000 100000 (fun _ _ => (aggVP [intsCk .u32 8 a_0])),
      .res 100000 100000 (fun _ _ => (lb p2 85 [intsCk .u32 8 a_0]))] [0, 1] [⟨[0, 2], [], [4], [], some 25⟩, ⟨[1, 4], [3], [5], [0], none⟩] [1, 5] mixed hn hG h (by kernel_rfl) ?_ ?_
    · exact ⟨⟨rfl, fun β => (GOk.plain (op_load_lb [] [intsCk .u32 8 a_0] [] 1 Tryd.isAgg85 Tryd.sizeOf85 (opt 0 rfl) rfl rfl rfl) rfl)⟩, ⟨rfl, fun β => (GOk.plain (op_store_lb [] [intsCk .u32 8 (List.replicate 8 0)] [] [intsCk .u32 8 a_0] Tryd.sizeOf85 (opt 0 rfl) (opt 1 rfl) (cells_agg _) rfl rfl rfl) rfl)⟩, trivial⟩
    clear h
    intro β a w h
    change SatL c [.slot 4 (lpVP p2 0), .res (lb p2 85 [intsCk .u32 8 a_0])] a w at h
    clear β
    show Code.wp Tryd.prog _ _ a w
    refine wp_ret ?_
    obtain rfl := Option.some.inj hF
    exact ⟨.inl rfl, ret1 h Tryd.results66 (r_cell 0 1 rfl rfl Tryd.isAgg85 Tryd.sizeOf85 rfl) [] [] rfl rfl rfl⟩
  · replace hF := ff_of hb3 hF
    replace h := h.sub [0, 1, 2, 4, 5] (by rfl)
    change SatL c [.slot 1 (slVP bC a_1), .slot 2 (lpVP p1 0), .slot 4 (lpVP p2 0), .res (lb p1 85 [intsCk .u32 8 a_0]), .res (lb p2 85 [intsCk .u32 8 (List.replicate 8 0)])] a w at h
    refine wp_skip ?_
    show Code.wp Tryd.prog _ _ a w
    refine wp_seq ?_
    obtain ⟨r4, hr4, hF⟩ := bind_some hF
    refine region_do (n := 231) [.slot 26 100000 100000 (fun _ _ => (aggVP [intsCk .u32 64 r4])),
      .slot 5 1 100000 (fun v1_ _ => (lpVP v1_ 0)),
      .res 1 100000 (fun v1_ _ => (lb (v1_) 111 [intsCk .u32 64 (List.replicate 64 0)])),
      .res 1 100000 (fun v1_ _ => (lb (v1_) 111 [intsCk .u32 64 r4]))] [0, 1, 1, 2] [⟨[], [], [5], [], some 26⟩, ⟨[], [], [6, 7], [0], some 5⟩, ⟨[6, 5], [7], [8], [0, 1], none⟩] [0, 1, 2, 6, 3, 4, 8] mixed hn hG h (by kernel_rfl) ?_ ?_
    · exact ⟨⟨rfl, fun β => (GOk.plain (op_call Tryd.call74 (ref01_constants_ok hr4) trivial) rfl)⟩, ⟨rfl, fun β => (GOk.plain (op_alloc Tryd.zeroValue111 z111) rfl)⟩, ⟨rfl, fun β => (GOk.plain (op_store_lb [] [intsCk .u32 64 (List.replicate 64 0)] [] [intsCk .u32 64 r4] Tryd.sizeOf111 (opt 0 rfl) (opt 1 rfl) (cells_agg _) rfl rfl rfl) rfl)⟩, trivial⟩
    clear h
    intro β a w h
    change SatL c [.slot 1 (slVP bC a_1), .slot 2 (lpVP p1 0), .slot 4 (lpVP p2 0), .slot 5 (lpVP (β 1) 0), .res (lb p1 85 [intsCk .u32 8 a_0]), .res (lb p2 85 [intsCk .u32 8 (List.replicate 8 0)]), .res (lb (β 1) 111 [intsCk .u32 64 r4])] a w at h
    generalize β 1 = p5 at h
    clear β
    show Code.wp Tryd.prog _ _ a w
    refine wp_seq ?_
    refine region_do (n := 231) [.slot 6 0 100000 (fun v1_ _ => (lpVP v1_ 0)),
      .res 0 100000 (fun v1_ _ => (lb (v1_) 111 [intsCk .u32 64 (List.replicate 64 0)]))] [0, 0] [⟨[], [], [7, 8], [], some 6⟩] [0, 1, 2, 3, 7, 4, 5, 6, 8] mixed hn hG h (by kernel_rfl) ?_ ?_
    · exact ⟨⟨rfl, fun β => (GOk.plain (op_alloc Tryd.zeroValue111 z111) rfl)⟩, trivial⟩
    clear h
    intro β a w h
    change SatL c [.slot 1 (slVP bC a_1), .slot 2 (lpVP p1 0), .slot 4 (lpVP p2 0), .slot 5 (lpVP p5 0), .slot 6 (lpVP (β 0) 0), .res (lb p1 85 [intsCk .u32 8 a_0]), .res (lb p2 85 [intsCk .u32 8 (List.replicate 8 0)]), .res (lb p5 111 [intsCk .u32 64 r4]), .res (lb (β 0) 111 [intsCk .u32 64 (List.replicate 64 0)])] a w at h
    generalize β 0 = p6 at h
    clear β
    show Code.wp Tryd.prog _ _ a w
    refine wp_seq ?_
    refine wp_seq ?_
    refine region_do (n := 231) [.slot 7 100000 100000 (fun _ _ => (intVP .i64 0))] [0] [⟨[], [], [9], [], some 7⟩] [0, 1, 2, 3, 4, 9, 5, 6, 7, 8] mixed hn hG h (by kernel_rfl) ?_ ?_
    · exact ⟨⟨rfl, fun β => (GOk.plain (op_assign (opc (ic (by decide)))) rfl)⟩, trivial⟩
    clear h
    intro β a w h
    change SatL c [.slot 1 (slVP bC a_1), .slot 2 (lpVP p1 0), .slot 4 (lpVP p2 0), .slot 5 (lpVP p5 0), .slot 6 (lpVP p6 0), .slot 7 (intVP .i64 0), .res (lb p1 85 [intsCk .u32 8 a_0]), .res (lb p2 85 [intsCk .u32 8 (List.replicate 8 0)]), .res (lb p5 111 [intsCk .u32 64 r4]), .res (lb p6 111 [intsCk .u32 64 (List.replicate 64 0)])] a w at h
    clear β
    show Code.wp Tryd.prog _ _ a w
    refine wp_block ?_
    obtain ⟨cr28, hl29, hF⟩ := bind_some hF
    refine wp_mono (wp_loopN (R := (List Int)) (S := Int × (List Int)) (fun s a w => SatL c [.slot 1 (slVP bC a_1), .slot 2 (lpVP p1 0), .slot 4 (lpVP p2 0), .slot 5 (lpVP p5 0), .slot 6 (lpVP p6 0), .slot 7 (intVP .i64 s.1), .res (lb p1 85 [intsCk .u32 8 a_0]), .res (lb p2 85 [intsCk .u32 8 (List.replicate 8 0)]), .res (lb p5 111 [intsCk .u32 64 r4]), .res (lb p6 111 [intsCk .u32 64 s.2])] a w) (fun res e a w => match res with | .next s => e = .exit 0 ∧ SatL c [.slot 2 (lpVP p1 0), .slot 4 (lpVP p2 0), .slot 5 (lpVP p5 0), .slot 6 (lpVP p6 0), .res (lb p1 85 [intsCk .u32 8 a_0]), .res (lb p2 85 [intsCk .u32 8 (List.replicate 8 0)]), .res (lb p5 111 [intsCk .u32 64 r4]), .res (lb p6 111 [intsCk .u32 64 s.2])] a w | .ret r => e = .ret ∧ RetOk Tryd.prog Tryd.f66 c (aggVP [intsCk .u32 8 r]) (fun _ => []) a w) ?_ _ (0, (List.replicate 64 0)) _ _ _ (h.sub [0, 1, 2, 3, 4, 5, 6, 7, 8, 9] (by rfl)) hl29) ?_
    · clear hl29 hF h
      intro s a w o h hF
      obtain ⟨x12, x13⟩ := s
      change ref01_Block.b1 a_1 x12 x13 = some o at hF
      unfold ref01_Block.b1 at hF
      change SatL c [.slot 1 (slVP bC a_1), .slot 2 (lpVP p1 0), .slot 4 (lpVP p2 0), .slot 5 (lpVP p5 0), .slot 6 (lpVP p6 0), .slot 7 (intVP .i64 x12), .res (lb p1 85 [intsCk .u32 8 a_0]), .res (lb p2 85 [intsCk .u32 8 (List.replicate 8 0)]), .res (lb p5 111 [intsCk .u32 64 r4]), .res (lb p6 111 [intsCk .u32 64 x13])] a w at h
      refine wp_seq ?_
      refine wp_seq ?_
      refine region_do (n := 231) [.slot 27 100000 100000 (fun _ _ => (intVP .i64 x12)),
      .slot 28 100000 100000 (fun _ _ => (boolVP (decide (x12 < (16 : Int)))))] [0, 1] [⟨[5], [], [10], [], some 27⟩, ⟨[10], [], [11], [0], some 28⟩] [0, 1, 2, 3, 4, 5, 11, 6, 7, 8, 9] mixed hn hG h (by kernel_rfl) ?_ ?_
      · exact ⟨⟨rfl, fun β => (GOk.plain (op_move (opt 0 rfl)) rfl)⟩, ⟨rfl, fun β => (GOk.plain (op_bin bin_lss (opt 0 rfl) (opc (ic (by decide)))) rfl)⟩, trivial⟩
      clear h
      intro β a w h
      change SatL c [.slot 1 (slVP bC a_1), .slot 2 (lpVP p1 0), .slot 4 (lpVP p2 0), .slot 5 (lpVP p5 0), .slot 6 (lpVP p6 0), .slot 7 (intVP .i64 x12), .slot 28 (boolVP (decide (x12 < (16 : Int)))), .res (lb p1 85 [intsCk .u32 8 a_0]), .res (lb p2 85 [intsCk .u32 8 (List.replicate 8 0)]), .res (lb p5 111 [intsCk .u32 64 r4]), .res (lb p6 111 [intsCk .u32 64 x13])] a w at h
      clear β
      show Code.wp Tryd.prog _ _ a w
      refine cond_L h 6 rfl (fun hb22 => ?_) (fun hb22 => ?_)
      · replace hF := tt_of hb22 hF
        replace h := h.sub [0, 1, 2, 3, 4, 5, 7, 8, 9, 10] (by rfl)
        change SatL c [.slot 1 (slVP bC a_1), .slot 2 (lpVP p1 0), .slot 4 (lpVP p2 0), .slot 5 (lpVP p5 0), .slot 6 (lpVP p6 0), .slot 7 (intVP .i64 x12), .res (lb p1 85 [intsCk .u32 8 a_0]), .res (lb p2 85 [intsCk .u32 8 (List.replicate 8 0)]), .res (lb p5 111 [intsCk .u32 64 r4]), .res (lb p6 111 [intsCk .u32 64 x13])] a w at h
        refine wp_skip ?_
        show Code.wp Tryd.prog _ _ a w
        refine wp_seq ?_
        refine wp_block ?_
        obtain ⟨hv23, hF⟩ := ite_some hF
        obtain ⟨hv24, hF⟩ := ite_some hF
        obtain ⟨hv25, hF⟩ := ite_some hF
        obtain ⟨hv26, hF⟩ := ite_some hF
        obtain ⟨hv27, hF⟩ := ite_some hF
        refine region_do (n := 231) [.slot 31 100000 100000 (fun _ _ => (intVP .i64 x12)),
      .slot 32 100000 100000 (fun _ _ => (slVP bC a_1)),
      .slot 33 100000 100000 (fun _ _ => (intVP .i64 x12)),
      .slot 34 100000 100000 (fun _ _ => (intVP .i64 (IntKind.wrap .i64 (4 * x12)))),
      .slot 35 100000 100000 (fun _ _ => (ppVP [one (intVP .u8 ((a_1.getD (IntKind.wrap .i64 (4 * x12)).toNat default).toNat))])),
      .slot 36 100000 100000 (fun _ _ => (intVP .u8 ((a_1.getD (IntKind.wrap .i64 (4 * x12)).toNat default).toNat))),
      .slot 37 100000 100000 (fun _ _ => (intVP .u32 (IntKind.wrap .u32 ((a_1.getD (IntKind.wrap .i64 (4 * x12)).toNat default).toNat)))),
      .slot 38 100000 100000 (fun _ _ => (intVP .u32 (IntKind.wrap .u32 ((IntKind.wrap .u32 ((a_1.getD (IntKind.wrap .i64 (4 * x12)).toNat default).toNat)) * 16777216)))),
      .slot 39 100000 100000 (fun _ _ => (slVP bC a_1)),
      .slot 40 100000 100000 (fun _ _ => (intVP .i64 x12)),
      .slot 41 100000 100000 (fun _ _ => (intVP .i64 (IntKind.wrap .i64 (4 * x12)))),
      .slot 42 100000 100000 (fun _ _ => (intVP .i64 (IntKind.wrap .i64 ((IntKind.wrap .i64 (4 * x12)) + 1)))),
      .slot 43 100000 100000 (fun _ _ => (ppVP [one (intVP .u8 ((a_1.getD (IntKind.wrap .i64 ((IntKind.wrap .i64 (4 * x12)) + 1)).toNat default).toNat))])),
      .slot 44 100000 100000 (fun _ _ => (intVP .u8 ((a_1.getD (IntKind.wrap .i64 ((IntKind.wrap .i64 (4 * x12)) + 1)).toNat default).toNat))),
      .slot 45 100000 100000 (fun _ _ => (intVP .u32 (IntKind.wrap .u32 ((a_1.getD (IntKind.wrap .i64 ((IntKind.wrap .i64 (4 * x12)) + 1)).toNat default).toNat)))),
      .slot 46 100000 100000 (fun _ _ => (intVP .u32 (IntKind.wrap .u32 ((IntKind.wrap .u32 ((a_1.getD (IntKind.wrap .i64 ((IntKind.wrap .i64 (4 * x12)) + 1)).toNat default).toNat)) * 65536)))),
      .slot 47 100000 100000 (fun _ _ => (intVP .u32 (IntKind.wrap .u32 ((IntKind.wrap .u32 ((IntKind.wrap .u32 ((a_1.getD (IntKind.wrap .i64 (4 * x12)).toNat default).toNat)) * 16777216)) + (IntKind.wrap .u32 ((IntKind.wrap .u32 ((a_1.getD (IntKind.wrap .i64 ((IntKind.wrap .i64 (4 * x12)) + 1)).toNat default).toNat)) * 65536)))))),
      .slot 48 100000 100000 (fun _ _ => (slVP bC a_1)),
      .slot 49 100000 100000 (fun _ _ => (intVP .i64 x12)),
      .slot 50 100000 100000 (fun _ _ => (intVP .i64 (IntKind.wrap .i64 (4 * x12)))),
      .slot 51 100000 100000 (fun _ _ => (intVP .i64 (IntKind.wrap .i64 ((IntKind.wrap .i64 (4 * x12)) + 2)))),
      .slot 52 100000 100000 (fun _ _ => (ppVP [one (intVP .u8 ((a_1.getD (IntKind.wrap .i64 ((IntKind.wrap .i64 (4 * x12)) + 2)).toNat default).toNat))])),
      .slot 53 100000 100000 (fun _ _ => (intVP .u8 ((a_1.getD (IntKind.wrap .i64 ((IntKind.wrap .i64 (4 * x12)) + 2)).toNat default).toNat))),
      .slot 54 100000 100000 (fun _ _ => (intVP .u32 (IntKind.wrap .u32 ((a_1.getD (IntKind.wrap .i64 ((IntKind.wrap .i64 (4 * x12)) + 2)).toNat default).toNat)))),
      .slot 55 100000 100000 (fun _ _ => (intVP .u32 (IntKind.wrap .u32 ((IntKind.wrap .u32 ((a_1.getD (IntKind.wrap .i64 ((IntKind.wrap .i64 (4 * x12)) + 2)).toNat default).toNat)) * 256)))),
      .slot 56 100000 100000 (fun _ _ => (intVP .u32 (IntKind.wrap .u32 ((IntKind.wrap .u32 ((IntKind.wrap .u32 ((IntKind.wrap .u32 ((a_1.getD (IntKind.wrap .i64 (4 * x12)).toNat default).toNat)) * 16777216)) + (IntKind.wrap .u32 ((IntKind.wrap .u32 ((a_1.getD (IntKind.wrap .i64 ((IntKind.wrap .i64 (4 * x12)) + 1)).toNat default).toNat)) * 65536)))) + (IntKind.wrap .u32 ((IntKind.wrap .u32 ((a_1.getD (IntKind.wrap .i64 ((IntKind.wrap .i64 (4 * x12)) + 2)).toNat default).toNat)) * 256)))))),
      .slot 57 100000 100000 (fun _ _ => (slVP bC a_1)),
      .slot 58 100000 100000 (fun _ _ => (intVP .i64 x12)),
      .slot 59 100000 100000 (fun _ _ => (intVP .i64 (IntKind.wrap .i64 (4 * x12)))),
      .slot 60 100000 100000 (fun _ _ => (intVP .i64 (IntKind.wrap .i64 ((IntKind.wrap .i64 (4 * x12)) + 3)))),
      .slot 61 100000 100000 (fun _ _ => (ppVP [one (intVP .u8 ((a_1.getD (IntKind.wrap .i64 ((IntKind.wrap .i64 (4 * x12)) + 3)).toNat default).toNat))])),
      .slot 62 100000 100000 (fun _ _ => (intVP .u8 ((a_1.getD (IntKind.wrap .i64 ((IntKind.wrap .i64 (4 * x12)) + 3)).toNat default).toNat))),
      .slot 63 100000 100000 (fun _ _ => (intVP .u32 (IntKind.wrap .u32 ((a_1.getD (IntKind.wrap .i64 ((IntKind.wrap .i64 (4 * x12)) + 3)).toNat default).toNat)))),
      .slot 64 100000 100000 (fun _ _ => (intVP .u32 (IntKind.wrap .u32 ((IntKind.wrap .u32 ((IntKind.wrap .u32 ((IntKind.wrap .u32 ((IntKind.wrap .u32 ((a_1.getD (IntKind.wrap .i64 (4 * x12)).toNat default).toNat)) * 16777216)) + (IntKind.wrap .u32 ((IntKind.wrap .u32 ((a_1.getD (IntKind.wrap .i64 ((IntKind.wrap .i64 (4 * x12)) + 1)).toNat default).toNat)) * 65536)))) + (IntKind.wrap .u32 ((IntKind.wrap .u32 ((a_1.getD (IntKind.wrap .i64 ((IntKind.wrap .i64 (4 * x12)) + 2)).toNat default).toNat)) * 256)))) + (IntKind.wrap .u32 ((a_1.getD (IntKind.wrap .i64 ((IntKind.wrap .i64 (4 * x12)) + 3)).toNat default).toNat)))))),
      .slot 65 100000 100000 (fun _ _ => (lpVP p6 (0 + x12.toNat * 1))),
      .res 100000 100000 (fun _ _ => (lb p6 111 [intsCk .u32 64 (x13.set x12.toNat (IntKind.wrap .u32 ((IntKind.wrap .u32 ((IntKind.wrap .u32 ((IntKind.wrap .u32 ((IntKind.wrap .u32 ((a_1.getD (IntKind.wrap .i64 (4 * x12)).toNat default).toNat)) * 16777216)) + (IntKind.wrap .u32 ((IntKind.wrap .u32 ((a_1.getD (IntKind.wrap .i64 ((IntKind.wrap .i64 (4 * x12)) + 1)).toNat default).toNat)) * 65536)))) + (IntKind.wrap .u32 ((IntKind.wrap .u32 ((a_1.getD (IntKind.wrap .i64 ((IntKind.wrap .i64 (4 * x12)) + 2)).toNat default).toNat)) * 256)))) + (IntKind.wrap .u32 ((a_1.getD (IntKind.wrap .i64 ((IntKind.wrap .i64 (4 * x12)) + 3)).toNat default).toNat)))))]))] [0, 1, 2, 3, 4, 5, 6, 7, 8, 9, 10, 11, 12, 13, 14, 15, 16, 17, 18, 19, 20, 21, 22, 23, 24, 25, 26, 27, 28, 29, 30, 31, 32, 33, 34, 35] [⟨[5], [], [10], [], some 31⟩, ⟨[0], [], [11], [], some 32⟩, ⟨[5], [], [12], [], some 33⟩, ⟨[12], [], [13], [2], some 34⟩, ⟨[11, 13], [], [14], [1, 2, 3], some 35⟩, ⟨[14], [], [15], [1, 2, 3, 4], some 36⟩, ⟨[15], [], [16], [1, 2, 3, 4, 5], some 37⟩, ⟨[16], [], [17], [1, 2, 3, 4, 5, 6], some 38⟩, ⟨[0], [], [18], [], some 39⟩, ⟨[5], [], [19], [], some 40⟩, ⟨[19], [], [20], [9], some 41⟩, ⟨[20], [], [21], [9, 10], some 42⟩, ⟨[18, 21], [], [22], [8, 9, 10, 11], some 43⟩, ⟨[22], [], [23], [8, 9, 10, 11, 12], some 44⟩, ⟨[23], [], [24], [8, 9, 10, 11, 12, 13], some 45⟩, ⟨[24], [], [25], [8, 9, 10, 11, 12, 13, 14], some 46⟩, ⟨[17, 25], [], [26], [1, 2, 3, 4, 5, 6, 7, 8, 9, 10, 11, 12, 13, 14, 15], some 47⟩, ⟨[0], [], [27], [], some 48⟩, ⟨[5], [], [28], [], some 49⟩, ⟨[28], [], [29], [18], some 50⟩, ⟨[29], [], [30], [18, 19], some 51⟩, ⟨[27, 30], [], [31], [17, 18, 19, 20], some 52⟩, ⟨[31], [], [32], [17, 18, 19, 20, 21], some 53⟩, ⟨[32], [], [33], [17, 18, 19, 20, 21, 22], some 54⟩, ⟨[33], [], [34], [17, 18, 19, 20, 21, 22, 23], some 55⟩, ⟨[26, 34], [], [35], [1, 2, 3, 4, 5, 6, 7, 8, 9, 10, 11, 12, 13, 14, 15, 16, 17, 18, 19, 20, 21, 22, 23, 24], some 56⟩, ⟨[0], [], [36], [], some 57⟩, ⟨[5], [], [37], [], some 58⟩, ⟨[37], [], [38], [27], some 59⟩, ⟨[38], [], [39], [27, 28], some 60⟩, ⟨[36, 39], [], [40], [26, 27, 28, 29], some 61⟩, ⟨[40], [], [41], [26, 27, 28, 29, 30], some 62⟩, ⟨[41], [], [42], [26, 27, 28, 29, 30, 31], some 63⟩, ⟨[35, 42], [], [43], [1, 2, 3, 4, 5, 6, 7, 8, 9, 10, 11, 12, 13, 14, 15, 16, 17, 18, 19, 20, 21, 22, 23, 24, 25, 26, 27, 28, 29, 30, 31, 32], some 64⟩, ⟨[4, 10], [], [44], [0, 1, 2, 3, 4, 5, 6, 7, 8, 9, 10, 11, 12, 13, 14, 15, 16, 17, 18, 19, 20, 21, 22, 23, 24, 25, 26, 27, 28, 29, 30, 31, 32, 33], some 65⟩, ⟨[44, 43], [9], [45], [0, 1, 2, 3, 4, 5, 6, 7, 8, 9, 10, 11, 12, 13, 14, 15, 16, 17, 18, 19, 20, 21, 22, 23, 24, 25, 26, 27, 28, 29, 30, 31, 32, 33, 34], none⟩] [0, 1, 2, 3, 4, 5, 6, 7, 8, 45] mixed hn hG h (by kernel_rfl) ?_ ?_
        · exact ⟨⟨rfl, fun β => (GOk.plain (op_move (opt 0 rfl)) rfl)⟩, ⟨rfl, fun β => (GOk.plain (op_move (opt 0 rfl)) rfl)⟩, ⟨rfl, fun β => (GOk.plain (op_move (opt 0 rfl)) rfl)⟩, ⟨rfl, fun β => (GOk.plain (op_bin bin_mul (opc (ic (by decide))) (opt 0 rfl)) rfl)⟩, ⟨rfl, fun β => (GOk.plain (op_indexAddr_sl Tryd.underlying79 Tryd.sizeOf5 lens_bC (opt 0 rfl) (opt 1 rfl) hv23) rfl)⟩, ⟨rfl, fun β => (GOk.plain (op_load_pp1 [] Tryd.isAgg5 (opt 0 rfl)) rfl)⟩, ⟨rfl, fun β => (GOk.plain (op_convert_int Tryd.underlying5 Tryd.underlying81 (opt 0 rfl)) rfl)⟩, ⟨rfl, fun β => (GOk.plain (op_bin bin_mul (opt 0 rfl) (opc (ic (by decide)))) rfl)⟩, ⟨rfl, fun β => (GOk.plain (op_move (opt 0 rfl)) rfl)⟩, ⟨rfl, fun β => (GOk.plain (op_move (opt 0 rfl)) rfl)⟩, ⟨rfl, fun β => (GOk.plain (op_bin bin_mul (opc (ic (by decide))) (opt 0 rfl)) rfl)⟩, ⟨rfl, fun β => (GOk.plain (op_bin bin_add (opt 0 rfl) (opc (ic (by decide)))) rfl)⟩, ⟨rfl, fun β => (GOk.plain (op_indexAddr_sl Tryd.underlying79 Tryd.sizeOf5 lens_bC (opt 0 rfl) (opt 1 rfl) hv24) rfl)⟩, ⟨rfl, fun β => (GOk.plain (op_load_pp1 [] Tryd.isAgg5 (opt 0 rfl)) rfl)⟩, ⟨rfl, fun β => (GOk.plain (op_convert_int Tryd.underlying5 Tryd.underlying81 (opt 0 rfl)) rfl)⟩, ⟨rfl, fun β => (GOk.plain (op_bin bin_mul (opt 0 rfl) (opc (ic (by decide)))) rfl)⟩, ⟨rfl, fun β => (GOk.plain (op_bin bin_add (opt 0 rfl) (opt 1 rfl)) rfl)⟩, ⟨rfl, fun β => (GOk.plain (op_move (opt 0 rfl)) rfl)⟩, ⟨rfl, fun β => (GOk.plain (op_move (opt 0 rfl)) rfl)⟩, ⟨rfl, fun β => (GOk.plain (op_bin bin_mul (opc (ic (by decide))) (opt 0 rfl)) rfl)⟩, ⟨rfl, fun β => (GOk.plain (op_bin bin_add (opt 0 rfl) (opc (ic (by decide)))) rfl)⟩, ⟨rfl, fun β => (GOk.plain (op_indexAddr_sl Tryd.underlying79 Tryd.sizeOf5 lens_bC (opt 0 rfl) (opt 1 rfl) hv25) rfl)⟩, ⟨rfl, fun β => (GOk.plain (op_load_pp1 [] Tryd.isAgg5 (opt 0 rfl)) rfl)⟩, ⟨rfl, fun β => (GOk.plain (op_convert_int Tryd.underlying5 Tryd.underlying81 (opt 0 rfl)) rfl)⟩, ⟨rfl, fun β => (GOk.plain (op_bin bin_mul (opt 0 rfl) (opc (ic (by decide)))) rfl)⟩, ⟨rfl, fun β => (GOk.plain (op_bin bin_add (opt 0 rfl) (opt 1 rfl)) rfl)⟩, ⟨rfl, fun β => (GOk.plain (op_move (opt 0 rfl)) rfl)⟩, ⟨rfl, fun β => (GOk.plain (op_move (opt 0 rfl)) rfl)⟩, ⟨rfl, fun β => (GOk.plain (op_bin bin_mul (opc (ic (by decide))) (opt 0 rfl)) rfl)⟩, ⟨rfl, fun β => (GOk.plain (op_bin bin_add (opt 0 rfl) (opc (ic (by decide)))) rfl)⟩, ⟨rfl, fun β => (GOk.plain (op_indexAddr_sl Tryd.underlying79 Tryd.sizeOf5 lens_bC (opt 0 rfl) (opt 1 rfl) hv26) rfl)⟩, ⟨rfl, fun β => (GOk.plain (op_load_pp1 [] Tryd.isAgg5 (opt 0 rfl)) rfl)⟩, ⟨rfl, fun β => (GOk.plain (op_convert_int Tryd.underlying5 Tryd.underlying81 (opt 0 rfl)) rfl)⟩, ⟨rfl, fun β => (GOk.plain (op_bin bin_add (opt 0 rfl) (opt 1 rfl)) rfl)⟩, ⟨rfl, fun β => (GOk.plain (op_indexAddr_lb Tryd.underlying111 Tryd.sizeOf81 (opt 0 rfl) (opt 1 rfl) hv27) rfl)⟩, ⟨rfl, fun β => (GOk.plain (op_store_lbI (i := x12) [] [] Tryd.sizeOf81 (opt 0 rfl) (opt 1 rfl) rfl hv27) rfl)⟩, trivial⟩
        clear h
        intro β a w h
        change SatL c [.slot 1 (slVP bC a_1), .slot 2 (lpVP p1 0), .slot 4 (lpVP p2 0), .slot 5 (lpVP p5 0), .slot 6 (lpVP p6 0), .slot 7 (intVP .i64 x12), .res (lb p1 85 [intsCk .u32 8 a_0]), .res (lb p2 85 [intsCk .u32 8 (List.replicate 8 0)]), .res (lb p5 111 [intsCk .u32 64 r4]), .res (lb p6 111 [intsCk .u32 64 (x13.set x12.toNat (IntKind.wrap .u32 ((IntKind.wrap .u32 ((IntKind.wrap .u32 ((IntKind.wrap .u32 ((IntKind.wrap .u32 ((a_1.getD (IntKind.wrap .i64 (4 * x12)).toNat default).toNat)) * 16777216)) + (IntKind.wrap .u32 ((IntKind.wrap .u32 ((a_1.getD (IntKind.wrap .i64 ((IntKind.wrap .i64 (4 * x12)) + 1)).toNat default).toNat)) * 65536)))) + (IntKind.wrap .u32 ((IntKind.wrap .u32 ((a_1.getD (IntKind.wrap .i64 ((IntKind.wrap .i64 (4 * x12)) + 2)).toNat default).toNat)) * 256)))) + (IntKind.wrap .u32 ((a_1.getD (IntKind.wrap .i64 ((IntKind.wrap .i64 (4 * x12)) + 3)).toNat default).toNat)))))])] a w at h
        clear β
        show Code.wp Tryd.prog _ _ a w
        refine region_do (n := 231) [.slot 29 100000 100000 (fun _ _ => (intVP .i64 x12)),
      .slot 30 100000 100000 (fun _ _ => (intVP .i64 (IntKind.wrap .i64 (x12 + 1)))),
      .slot 7 100000 100000 (fun _ _ => (intVP .i64 (IntKind.wrap .i64 (x12 + 1))))] [0, 1, 2] [⟨[5], [], [10], [], some 29⟩, ⟨[10], [], [11], [0], some 30⟩, ⟨[11], [5], [12], [0, 1], some 7⟩] [0, 1, 2, 3, 4, 12, 6, 7, 8, 9] mixed hn hG h (by kernel_rfl) ?_ ?_
        · exact ⟨⟨rfl, fun β => (GOk.plain (op_move (opt 0 rfl)) rfl)⟩, ⟨rfl, fun β => (GOk.plain (op_bin bin_add (opt 0 rfl) (opc (ic (by decide)))) rfl)⟩, ⟨rfl, fun β => (GOk.drop _ (GOk.plain (op_assign (opt 0 rfl)) rfl))⟩, trivial⟩
        clear h
        intro β a w h
        change SatL c [.slot 1 (slVP bC a_1), .slot 2 (lpVP p1 0), .slot 4 (lpVP p2 0), .slot 5 (lpVP p5 0), .slot 6 (lpVP p6 0), .slot 7 (intVP .i64 (IntKind.wrap .i64 (x12 + 1))), .res (lb p1 85 [intsCk .u32 8 a_0]), .res (lb p2 85 [intsCk .u32 8 (List.replicate 8 0)]), .res (lb p5 111 [intsCk .u32 64 r4]), .res (lb p6 111 [intsCk .u32 64 (x13.set x12.toNat (IntKind.wrap .u32 ((IntKind.wrap .u32 ((IntKind.wrap .u32 ((IntKind.wrap .u32 ((IntKind.wrap .u32 ((a_1.getD (IntKind.wrap .i64 (4 * x12)).toNat default).toNat)) * 16777216)) + (IntKind.wrap .u32 ((IntKind.wrap .u32 ((a_1.getD (IntKind.wrap .i64 ((IntKind.wrap .i64 (4 * x12)) + 1)).toNat default).toNat)) * 65536)))) + (IntKind.wrap .u32 ((IntKind.wrap .u32 ((a_1.getD (IntKind.wrap .i64 ((IntKind.wrap .i64 (4 * x12)) + 2)).toNat default).toNat)) * 256)))) + (IntKind.wrap .u32 ((a_1.getD (IntKind.wrap .i64 ((IntKind.wrap .i64 (4 * x12)) + 3)).toNat default).toNat)))))])] a w at h
        clear β
        obtain rfl := Option.some.inj hF
        exact ⟨rfl, h.sub [0, 1, 2, 3, 4, 5, 6, 7, 8, 9] (by rfl)⟩
      · replace hF := ff_of hb22 hF
        replace h := h.sub [0, 1, 2, 3, 4, 5, 7, 8, 9, 10] (by rfl)
        change SatL c [.slot 1 (slVP bC a_1), .slot 2 (lpVP p1 0), .slot 4 (lpVP p2 0), .slot 5 (lpVP p5 0), .slot 6 (lpVP p6 0), .slot 7 (intVP .i64 x12), .res (lb p1 85 [intsCk .u32 8 a_0]), .res (lb p2 85 [intsCk .u32 8 (List.replicate 8 0)]), .res (lb p5 111 [intsCk .u32 64 r4]), .res (lb p6 111 [intsCk .u32 64 x13])] a w at h
        refine wp_exit ?_
        obtain rfl := Option.some.inj hF
        exact ⟨exit_ne _, rfl, h.sub [1, 2, 3, 4, 6, 7, 8, 9] (by rfl)⟩
    · clear hl29
      intro e a w hq
      cases cr28 with
      | ret r30 =>
        obtain ⟨rfl, hq⟩ := hq
        obtain rfl := Option.some.inj hF
        exact ⟨.inl rfl, hq⟩
      | next s31 =>
        obtain ⟨y32, y33⟩ := s31
        obtain ⟨rfl, h⟩ := hq
        change SatL c [.slot 2 (lpVP p1 0), .slot 4 (lpVP p2 0), .slot 5 (lpVP p5 0), .slot 6 (lpVP p6 0), .res (lb p1 85 [intsCk .u32 8 a_0]), .res (lb p2 85 [intsCk .u32 8 (List.replicate 8 0)]), .res (lb p5 111 [intsCk .u32 64 r4]), .res (lb p6 111 [intsCk .u32 64 y33])] a w at h
        refine inBlock_at ?_
        show Code.wp Tryd.prog _ _ a w
        refine wp_seq ?_
        refine wp_seq ?_
        refine region_do (n := 231) [.slot 8 100000 100000 (fun _ _ => (intVP .i64 16))] [0] [⟨[], [], [8], [], some 8⟩] [0, 1, 2, 3, 8, 4, 5, 6, 7] mixed hn hG h (by kernel_rfl) ?_ ?_
        · exact ⟨⟨rfl, fun β => (GOk.plain (op_assign (opc (ic (by decide)))) rfl)⟩, trivial⟩
        clear h
        intro β a w h
        change SatL c [.slot 2 (lpVP p1 0), .slot 4 (lpVP p2 0), .slot 5 (lpVP p5 0), .slot 6 (lpVP p6 0), .slot 8 (intVP .i64 16), .res (lb p1 85 [intsCk .u32 8 a_0]), .res (lb p2 85 [intsCk .u32 8 (List.replicate 8 0)]), .res (lb p5 111 [intsCk .u32 64 r4]), .res (lb p6 111 [intsCk .u32 64 y33])] a w at h
        clear β
        show Code.wp Tryd.prog _ _ a w
        refine wp_block ?_
        obtain ⟨cr67, hl68, hF⟩ := bind_some hF
        refine wp_mono (wp_loopN (R := (List Int)) (S := Int × (List Int)) (fun s a w => SatL c [.slot 2 (lpVP p1 0), .slot 4 (lpVP p2 0), .slot 5 (lpVP p5 0), .slot 6 (lpVP p6 0), .slot 8 (intVP .i64 s.1), .res (lb p1 85 [intsCk .u32 8 a_0]), .res (lb p2 85 [intsCk .u32 8 (List.replicate 8 0)]), .res (lb p5 111 [intsCk .u32 64 r4]), .res (lb p6 111 [intsCk .u32 64 s.2])] a w) (fun res e a w => match res with | .next s => e = .exit 2 ∧ SatL c [.slot 2 (lpVP p1 0), .slot 4 (lpVP p2 0), .slot 5 (lpVP p5 0), .slot 6 (lpVP p6 0), .res (lb p1 85 [intsCk .u32 8 a_0]), .res (lb p2 85 [intsCk .u32 8 (List.replicate 8 0)]), .res (lb p5 111 [intsCk .u32 64 r4]), .res (lb p6 111 [intsCk .u32 64 s.2])] a w | .ret r => e = .ret ∧ RetOk Tryd.prog Tryd.f66 c (aggVP [intsCk .u32 8 r]) (fun _ => []) a w) ?_ _ (16, y33) _ _ _ (h.sub [0, 1, 2, 3, 4, 5, 6, 7, 8] (by rfl)) hl68) ?_
        · clear hl68 hF h
          intro s a w o h hF
          obtain ⟨x43, x44⟩ := s
          change ref01_Block.b2 x43 x44 = some o at hF
          unfold ref01_Block.b2 at hF
          change SatL c [.slot 2 (lpVP p1 0), .slot 4 (lpVP p2 0), .slot 5 (lpVP p5 0), .slot 6 (lpVP p6 0), .slot 8 (intVP .i64 x43), .res (lb p1 85 [intsCk .u32 8 a_0]), .res (lb p2 85 [intsCk .u32 8 (List.replicate 8 0)]), .res (lb p5 111 [intsCk .u32 64 r4]), .res (lb p6 111 [intsCk .u32 64 x44])] a w at h
          refine wp_seq ?_
          refine wp_seq ?_
          refine region_do (n := 231) [.slot 66 100000 100000 (fun _ _ => (intVP .i64 x43)),
      .slot 67 100000 100000 (fun _ _ => (boolVP (decide (x43 < (64 : Int)))))] [0, 1] [⟨[4], [], [9], [], some 66⟩, ⟨[9], [], [10], [0], some 67⟩] [0, 1, 2, 3, 4, 10, 5, 6, 7, 8] mixed hn hG h (by kernel_rfl) ?_ ?_
          · exact ⟨⟨rfl, fun β => (GOk.plain (op_move (opt 0 rfl)) rfl)⟩, ⟨rfl, fun β => (GOk.plain (op_bin bin_lss (opt 0 rfl) (opc (ic (by decide)))) rfl)⟩, trivial⟩
          clear h
          intro β a w h
          change SatL c [.slot 2 (lpVP p1 0), .slot 4 (lpVP p2 0), .slot 5 (lpVP p5 0), .slot 6 (lpVP p6 0), .slot 8 (intVP .i64 x43), .slot 67 (boolVP (decide (x43 < (64 : Int)))), .res (lb p1 85 [intsCk .u32 8 a_0]), .res (lb p2 85 [intsCk .u32 8 (List.replicate 8 0)]), .res (lb p5 111 [intsCk .u32 64 r4]), .res (lb p6 111 [intsCk .u32 64 x44])] a w at h
          clear β
          show Code.wp Tryd.prog _ _ a w
          refine cond_L h 5 rfl (fun hb57 => ?_) (fun hb57 => ?_)
          · replace hF := tt_of hb57 hF
            replace h := h.sub [0, 1, 2, 3, 4, 6, 7, 8, 9] (by rfl)
            change SatL c [.slot 2 (lpVP p1 0), .slot 4 (lpVP p2 0), .slot 5 (lpVP p5 0), .slot 6 (lpVP p6 0), .slot 8 (intVP .i64 x43), .res (lb p1 85 [intsCk .u32 8 a_0]), .res (lb p2 85 [intsCk .u32 8 (List.replicate 8 0)]), .res (lb p5 111 [intsCk .u32 64 r4]), .res (lb p6 111 [intsCk .u32 64 x44])] a w at h
            refine wp_skip ?_
            show Code.wp Tryd.prog _ _ a w
            refine wp_seq ?_
            refine wp_block ?_
            refine wp_seq ?_
            obtain ⟨hv58, hF⟩ := ite_some hF
            obtain ⟨r59, hr59, hF⟩ := bind_some hF
            obtain ⟨r60, hr60, hF⟩ := bind_some hF
            refine region_do (n := 231) [.slot 70 100000 100000 (fun _ _ => (intVP .i64 x43)),
      .slot 71 100000 100000 (fun _ _ => (intVP .i64 (IntKind.wrap .i64 (x43 - 15)))),
      .slot 72 100000 100000 (fun _ _ => (lpVP p6 (0 + (IntKind.wrap .i64 (x43 - 15)).toNat * 1))),
      .slot 73 100000 100000 (fun _ _ => (intVP .u32 (x44.getD (IntKind.wrap .i64 (x43 - 15)).toNat 0))),
      .slot 74 100000 100000 (fun _ _ => (intVP .u32 r59)),
      .slot 75 100000 100000 (fun _ _ => (intVP .i64 x43)),
      .slot 76 100000 100000 (fun _ _ => (intVP .i64 (IntKind.wrap .i64 (x43 - 15)))),
      .slot 77 100000 100000 (fun _ _ => (lpVP p6 (0 + (IntKind.wrap .i64 (x43 - 15)).toNat * 1))),
      .slot 78 100000 100000 (fun _ _ => (intVP .u32 (x44.getD (IntKind.wrap .i64 (x43 - 15)).toNat 0))),
      .slot 79 100000 100000 (fun _ _ => (intVP .u32 r60)),
      .slot 80 100000 100000 (fun _ _ => (intVP .u32 (bits .xor .u32 r59 r60))),
      .slot 81 100000 100000 (fun _ _ => (intVP .i64 x43)),
      .slot 82 100000 100000 (fun _ _ => (intVP .i64 (IntKind.wrap .i64 (x43 - 15)))),
      .slot 83 100000 100000 (fun _ _ => (lpVP p6 (0 + (IntKind.wrap .i64 (x43 - 15)).toNat * 1))),
      .slot 84 100000 100000 (fun _ _ => (intVP .u32 (x44.getD (IntKind.wrap .i64 (x43 - 15)).toNat 0))),
      .slot 85 100000 100000 (fun _ _ => (intVP .u32 (shr .u32 (x44.getD (IntKind.wrap .i64 (x43 - 15)).toNat 0) 3))),
      .slot 86 100000 100000 (fun _ _ => (intVP .u32 (bits .xor .u32 (bits .xor .u32 r59 r60) (shr .u32 (x44.getD (IntKind.wrap .i64 (x43 - 15)).toNat 0) 3)))),
      .slot 9 100000 100000 (fun _ _ => (intVP .u32 (bits .xor .u32 (bits .xor .u32 r59 r60) (shr .u32 (x44.getD (IntKind.wrap .i64 (x43 - 15)).toNat 0) 3))))] [0, 1, 2, 3, 4, 5, 6, 7, 8, 9, 10, 11, 12, 13, 14, 15, 16, 17] [⟨[4], [], [9], [], some 70⟩, ⟨[9], [], [10], [0], some 71⟩, ⟨[3, 10], [], [11], [0, 1], some 72⟩, ⟨[11, 8], [], [12], [0, 1, 2], some 73⟩, ⟨[12], [], [13], [0, 1, 2, 3], some 74⟩, ⟨[4], [], [14], [], some 75⟩, ⟨[14], [], [15], [5], some 76⟩, ⟨[3, 15], [], [16], [5, 6], some 77⟩, ⟨[16, 8], [], [17], [5, 6, 7], some 78⟩, ⟨[17], [], [18], [0, 1, 2, 3, 4, 5, 6, 7, 8], some 79⟩, ⟨[13, 18], [], [19], [0, 1, 2, 3, 4, 5, 6, 7, 8, 9], some 80⟩, ⟨[4], [], [20], [], some 81⟩, ⟨[20], [], [21], [11], some 82⟩, ⟨[3, 21], [], [22], [11, 12], some 83⟩, ⟨[22, 8], [], [23], [11, 12, 13], some 84⟩, ⟨[23], [], [24], [11, 12, 13, 14], some 85⟩, ⟨[19, 24], [], [25], [0, 1, 2, 3, 4, 5, 6, 7, 8, 9, 10, 11, 12, 13, 14, 15], some 86⟩, ⟨[25], [], [26], [0, 1, 2, 3, 4, 5, 6, 7, 8, 9, 10, 11, 12, 13, 14, 15, 16], some 9⟩] [0, 1, 2, 3, 4, 26, 5, 6, 7, 8] mixed hn hG h (by kernel_rfl) ?_ ?_
            · exact ⟨⟨rfl, fun β => (GOk.plain (op_move (opt 0 rfl)) rfl)⟩, ⟨rfl, fun β => (GOk.plain (op_bin bin_sub (opt 0 rfl) (opc (ic (by decide)))) rfl)⟩, ⟨rfl, fun β => (GOk.plain (op_indexAddr_lb Tryd.underlying111 Tryd.sizeOf81 (opt 0 rfl) (opt 1 rfl) hv58) rfl)⟩, ⟨rfl, fun β => (GOk.plain (op_load_lbI (i := IntKind.wrap .i64 (x43 - 15)) [] [] 1 Tryd.isAgg81 (opt 0 rfl) rfl rfl hv58) rfl)⟩, ⟨rfl, fun β => (GOk.plain (op_call Tryd.call75 (ref01_turn_ok hr59) ⟨(opt 0 rfl), (opc (ic (by decide))), trivial⟩) rfl)⟩, ⟨rfl, fun β => (GOk.plain (op_move (opt 0 rfl)) rfl)⟩, ⟨rfl, fun β => (GOk.plain (op_bin bin_sub (opt 0 rfl) (opc (ic (by decide)))) rfl)⟩, ⟨rfl, fun β => (GOk.plain (op_indexAddr_lb Tryd.underlying111 Tryd.sizeOf81 (opt 0 rfl) (opt 1 rfl) hv58) rfl)⟩, ⟨rfl, fun β => (GOk.plain (op_load_lbI (i := IntKind.wrap .i64 (x43 - 15)) [] [] 1 Tryd.isAgg81 (opt 0 rfl) rfl rfl hv58) rfl)⟩, ⟨rfl, fun β => (GOk.plain (op_call Tryd.call75 (ref01_turn_ok hr60) ⟨(opt 0 rfl), (opc (ic (by decide))), trivial⟩) rfl)⟩, ⟨rfl, fun β => (GOk.plain (op_bin bin_xor (opt 0 rfl) (opt 1 rfl)) rfl)⟩, ⟨rfl, fun β => (GOk.plain (op_move (opt 0 rfl)) rfl)⟩, ⟨rfl, fun β => (GOk.plain (op_bin bin_sub (opt 0 rfl) (opc (ic (by decide)))) rfl)⟩, ⟨rfl, fun β => (GOk.plain (op_indexAddr_lb Tryd.underlying111 Tryd.sizeOf81 (opt 0 rfl) (opt 1 rfl) hv58) rfl)⟩, ⟨rfl, fun β => (GOk.plain (op_load_lbI (i := IntKind.wrap .i64 (x43 - 15)) [] [] 1 Tryd.isAgg81 (opt 0 rfl) rfl rfl hv58) rfl)⟩, ⟨rfl, fun β => (GOk.plain (op_bin (bin_shru rfl) (opt 0 rfl) (opc (ic (by decide)))) rfl)⟩, ⟨rfl, fun β => (GOk.plain (op_bin bin_xor (opt 0 rfl) (opt 1 rfl)) rfl)⟩, ⟨rfl, fun β => (GOk.plain (op_assign (opt 0 rfl)) rfl)⟩, trivial⟩
            clear h
            intro β a w h
            change SatL c [.slot 2 (lpVP p1 0), .slot 4 (lpVP p2 0), .slot 5 (lpVP p5 0), .slot 6 (lpVP p6 0), .slot 8 (intVP .i64 x43), .slot 9 (intVP .u32 (bits .xor .u32 (bits .xor .u32 r59 r60) (shr .u32 (x44.getD (IntKind.wrap .i64 (x43 - 15)).toNat 0) 3))), .res (lb p1 85 [intsCk .u32 8 a_0]), .res (lb p2 85 [intsCk .u32 8 (List.replicate 8 0)]), .res (lb p5 111 [intsCk .u32 64 r4]), .res (lb p6 111 [intsCk .u32 64 x44])] a w at h
            clear β
            show Code.wp Tryd.prog _ _ a w
            refine wp_seq ?_
            obtain ⟨hv61, hF⟩ := ite_some hF
            obtain ⟨r62, hr62, hF⟩ := bind_some hF
            obtain ⟨r63, hr63, hF⟩ := bind_some hF
            refine region_do (n := 231) [.slot 87 100000 100000 (fun _ _ => (intVP .i64 x43)),
      .slot 88 100000 100000 (fun _ _ => (intVP .i64 (IntKind.wrap .i64 (x43 - 2)))),
      .slot 89 100000 100000 (fun _ _ => (lpVP p6 (0 + (IntKind.wrap .i64 (x43 - 2)).toNat * 1))),
      .slot 90 100000 100000 (fun _ _ => (intVP .u32 (x44.getD (IntKind.wrap .i64 (x43 - 2)).toNat 0))),
      .slot 91 100000 100000 (fun _ _ => (intVP .u32 r62)),
      .slot 92 100000 100000 (fun _ _ => (intVP .i64 x43)),
      .slot 93 100000 100000 (fun _ _ => (intVP .i64 (IntKind.wrap .i64 (x43 - 2)))),
      .slot 94 100000 100000 (fun _ _ => (lpVP p6 (0 + (IntKind.wrap .i64 (x43 - 2)).toNat * 1))),
      .slot 95 100000 100000 (fun _ _ => (intVP .u32 (x44.getD (IntKind.wrap .i64 (x43 - 2)).toNat 0))),
      .slot 96 100000 100000 (fun _ _ => (intVP .u32 r63)),
      .slot 97 100000 100000 (fun _ _ => (intVP .u32 (bits .xor .u32 r62 r63))),
      .slot 98 100000 100000 (fun _ _ => (intVP .i64 x43)),
      .slot 99 100000 100000 (fun _ _ => (intVP .i64 (IntKind.wrap .i64 (x43 - 2)))),
      .slot 100 100000 100000 (fun _ _ => (lpVP p6 (0 + (IntKind.wrap .i64 (x43 - 2)).toNat * 1))),
      .slot 101 100000 100000 (fun _ _ => (intVP .u32 (x44.getD (IntKind.wrap .i64 (x43 - 2)).toNat 0))),
      .slot 102 100000 100000 (fun _ _ => (intVP .u32 (shr .u32 (x44.getD (IntKind.wrap .i64 (x43 - 2)).toNat 0) 10))),
      .slot 103 100000 100000 (fun _ _ => (intVP .u32 (bits .xor .u32 (bits .xor .u32 r62 r63) (shr .u32 (x44.getD (IntKind.wrap .i64 (x43 - 2)).toNat 0) 10)))),
      .slot 10 100000 100000 (fun _ _ => (intVP .u32 (bits .xor .u32 (bits .xor .u32 r62 r63) (shr .u32 (x44.getD (IntKind.wrap .i64 (x43 - 2)).toNat 0) 10))))] [0, 1, 2, 3, 4, 5, 6, 7, 8, 9, 10, 11, 12, 13, 14, 15, 16, 17] [⟨[4], [], [10], [], some 87⟩, ⟨[10], [], [11], [0], some 88⟩, ⟨[3, 11], [], [12], [0, 1], some 89⟩, ⟨[12, 9], [], [13], [0, 1, 2], some 90⟩, ⟨[13], [], [14], [0, 1, 2, 3], some 91⟩, ⟨[4], [], [15], [], some 92⟩, ⟨[15], [], [16], [5], some 93⟩, ⟨[3, 16], [], [17], [5, 6], some 94⟩, ⟨[17, 9], [], [18], [5, 6, 7], some 95⟩, ⟨[18], [], [19], [0, 1, 2, 3, 4, 5, 6, 7, 8], some 96⟩, ⟨[14, 19], [], [20], [0, 1, 2, 3, 4, 5, 6, 7, 8, 9], some 97⟩, ⟨[4], [], [21], [], some 98⟩, ⟨[21], [], [22], [11], some 99⟩, ⟨[3, 22], [], [23], [11, 12], some 100⟩, ⟨[23, 9], [], [24], [11, 12, 13], some 101⟩, ⟨[24], [], [25], [11, 12, 13, 14], some 102⟩, ⟨[20, 25], [], [26], [0, 1, 2, 3, 4, 5, 6, 7, 8, 9, 10, 11, 12, 13, 14, 15], some 103⟩, ⟨[26], [], [27], [0, 1, 2, 3, 4, 5, 6, 7, 8, 9, 10, 11, 12, 13, 14, 15, 16], some 10⟩] [0, 1, 2, 3, 4, 5, 27, 6, 7, 8, 9] mixed hn hG h (by kernel_rfl) ?_ ?_
            · exact ⟨⟨rfl, fun β => (GOk.plain (op_move (opt 0 rfl)) rfl)⟩, ⟨rfl, fun β => (GOk.plain (op_bin bin_sub (opt 0 rfl) (opc (ic (by decide)))) rfl)⟩, ⟨rfl, fun β => (GOk.plain (op_indexAddr_lb Tryd.underlying111 Tryd.sizeOf81 (opt 0 rfl) (opt 1 rfl) hv61) rfl)⟩, ⟨rfl, fun β => (GOk.plain (op_load_lbI (i := IntKind.wrap .i64 (x43 - 2)) [] [] 1 Tryd.isAgg81 (opt 0 rfl) rfl rfl hv61) rfl)⟩, ⟨rfl, fun β => (GOk.plain (op_call Tryd.call75 (ref01_turn_ok hr62) ⟨(opt 0 rfl), (opc (ic (by decide))), trivial⟩) rfl)⟩, ⟨rfl, fun β => (GOk.plain (op_move (opt 0 rfl)) rfl)⟩, ⟨rfl, fun β => (GOk.plain (op_bin bin_sub (opt 0 rfl) (opc (ic (by decide)))) rfl)⟩, ⟨rfl, fun β => (GOk.plain (op_indexAddr_lb Tryd.underlying111 Tryd.sizeOf81 (opt 0 rfl) (opt 1 rfl) hv61) rfl)⟩, ⟨rfl, fun β => (GOk.plain (op_load_lbI (i := IntKind.wrap .i64 (x43 - 2)) [] [] 1 Tryd.isAgg81 (opt 0 rfl) rfl rfl hv61) rfl)⟩, ⟨rfl, fun β => (GOk.plain (op_call Tryd.call75 (ref01_turn_ok hr63) ⟨(opt 0 rfl), (opc (ic (by decide))), trivial⟩) rfl)⟩, ⟨rfl, fun β => (GOk.plain (op_bin bin_xor (opt 0 rfl) (opt 1 rfl)) rfl)⟩, ⟨rfl, fun β => (GOk.plain (op_move (opt 0 rfl)) rfl)⟩, ⟨rfl, fun β => (GOk.plain (op_bin bin_sub (opt 0 rfl) (opc (ic (by decide)))) rfl)⟩, ⟨rfl, fun β => (GOk.plain (op_indexAddr_lb Tryd.underlying111 Tryd.sizeOf81 (opt 0 rfl) (opt 1 rfl) hv61) rfl)⟩, ⟨rfl, fun β => (GOk.plain (op_load_lbI (i := IntKind.wrap .i64 (x43 - 2)) [] [] 1 Tryd.isAgg81 (opt 0 rfl) rfl rfl hv61) rfl)⟩, ⟨rfl, fun β => (GOk.plain (op_bin (bin_shru rfl) (opt 0 rfl) (opc (ic (by decide)))) rfl)⟩, ⟨rfl, fun β => (GOk.plain (op_bin bin_xor (opt 0 rfl) (opt 1 rfl)) rfl)⟩, ⟨rfl, fun β => (GOk.plain (op_assign (opt 0 rfl)) rfl)⟩, trivial⟩
            clear h
            intro β a w h
            change SatL c [.slot 2 (lpVP p1 0), .slot 4 (lpVP p2 0), .slot 5 (lpVP p5 0), .slot 6 (lpVP p6 0), .slot 8 (intVP .i64 x43), .slot 9 (intVP .u32 (bits .xor .u32 (bits .xor .u32 r59 r60) (shr .u32 (x44.getD (IntKind.wrap .i64 (x43 - 15)).toNat 0) 3))), .slot 10 (intVP .u32 (bits .xor .u32 (bits .xor .u32 r62 r63) (shr .u32 (x44.getD (IntKind.wrap .i64 (x43 - 2)).toNat 0) 10))), .res (lb p1 85 [intsCk .u32 8 a_0]), .res (lb p2 85 [intsCk .u32 8 (List.replicate 8 0)]), .res (lb p5 111 [intsCk .u32 64 r4]), .res (lb p6 111 [intsCk .u32 64 x44])] a w at h
            clear β
            show Code.wp Tryd.prog _ _ a w
            obtain ⟨hv64, hF⟩ := ite_some hF
            obtain ⟨hv65, hF⟩ := ite_some hF
            obtain ⟨hv66, hF⟩ := ite_some hF
            refine region_do (n := 231) [.slot 104 100000 100000 (fun _ _ => (intVP .i64 x43)),
      .slot 105 100000 100000 (fun _ _ => (intVP .i64 x43)),
      .slot 106 100000 100000 (fun _ _ => (intVP .i64 (IntKind.wrap .i64 (x43 - 16)))),
      .slot 107 100000 100000 (fun _ _ => (lpVP p6 (0 + (IntKind.wrap .i64 (x43 - 16)).toNat * 1))),
      .slot 108 100000 100000 (fun _ _ => (intVP .u32 (x44.getD (IntKind.wrap .i64 (x43 - 16)).toNat 0))),
      .slot 109 100000 100000 (fun _ _ => (intVP .u32 (bits .xor .u32 (bits .xor .u32 r59 r60) (shr .u32 (x44.getD (IntKind.wrap .i64 (x43 - 15)).toNat 0) 3)))),
      .slot 110 100000 100000 (fun _ _ => (intVP .u32 (IntKind.wrap .u32 ((x44.getD (IntKind.wrap .i64 (x43 - 16)).toNat 0) + (bits .xor .u32 (bits .xor .u32 r59 r60) (shr .u32 (x44.getD (IntKind.wrap .i64 (x43 - 15)).toNat 0) 3)))))),
      .slot 111 100000 100000 (fun _ _ => (intVP .i64 x43)),
      .slot 112 100000 100000 (fun _ _ => (intVP .i64 (IntKind.wrap .i64 (x43 - 7)))),
      .slot 113 100000 100000 (fun _ _ => (lpVP p6 (0 + (IntKind.wrap .i64 (x43 - 7)).toNat * 1))),
      .slot 114 100000 100000 (fun _ _ => (intVP .u32 (x44.getD (IntKind.wrap .i64 (x43 - 7)).toNat 0))),
      .slot 115 100000 100000 (fun _ _ => (intVP .u32 (IntKind.wrap .u32 ((IntKind.wrap .u32 ((x44.getD (IntKind.wrap .i64 (x43 - 16)).toNat 0) + (bits .xor .u32 (bits .xor .u32 r59 r60) (shr .u32 (x44.getD (IntKind.wrap .i64 (x43 - 15)).toNat 0) 3)))) + (x44.getD (IntKind.wrap .i64 (x43 - 7)).toNat 0))))),
      .slot 116 100000 100000 (fun _ _ => (intVP .u32 (bits .xor .u32 (bits .xor .u32 r62 r63) (shr .u32 (x44.getD (IntKind.wrap .i64 (x43 - 2)).toNat 0) 10)))),
      .slot 117 100000 100000 (fun _ _ => (intVP .u32 (IntKind.wrap .u32 ((IntKind.wrap .u32 ((IntKind.wrap .u32 ((x44.getD (IntKind.wrap .i64 (x43 - 16)).toNat 0) + (bits .xor .u32 (bits .xor .u32 r59 r60) (shr .u32 (x44.getD (IntKind.wrap .i64 (x43 - 15)).toNat 0) 3)))) + (x44.getD (IntKind.wrap .i64 (x43 - 7)).toNat 0))) + (bits .xor .u32 (bits .xor .u32 r62 r63) (shr .u32 (x44.getD (IntKind.wrap .i64 (x43 - 2)).toNat 0) 10)))))),
      .slot 118 100000 100000 (fun _ _ => (lpVP p6 (0 + x43.toNat * 1))),
      .res 100000 100000 (fun _ _ => (lb p6 111 [intsCk .u32 64 (x44.set x43.toNat (IntKind.wrap .u32 ((IntKind.wrap .u32 ((IntKind.wrap .u32 ((x44.getD (IntKind.wrap .i64 (x43 - 16)).toNat 0) + (bits .xor .u32 (bits .xor .u32 r59 r60) (shr .u32 (x44.getD (IntKind.wrap .i64 (x43 - 15)).toNat 0) 3)))) + (x44.getD (IntKind.wrap .i64 (x43 - 7)).toNat 0))) + (bits .xor .u32 (bits .xor .u32 r62 r63) (shr .u32 (x44.getD (IntKind.wrap .i64 (x43 - 2)).toNat 0) 10)))))]))] [0, 1, 2, 3, 4, 5, 6, 7, 8, 9, 10, 11, 12, 13, 14, 15] [⟨[4], [], [11], [], some 104⟩, ⟨[4], [], [12], [], some 105⟩, ⟨[12], [], [13], [1], some 106⟩, ⟨[3, 13], [], [14], [1, 2], some 107⟩, ⟨[14, 10], [], [15], [1, 2, 3], some 108⟩, ⟨[5], [], [16], [], some 109⟩, ⟨[15, 16], [], [17], [1, 2, 3, 4, 5], some 110⟩, ⟨[4], [], [18], [], some 111⟩, ⟨[18], [], [19], [7], some 112⟩, ⟨[3, 19], [], [20], [7, 8], some 113⟩, ⟨[20, 10], [], [21], [7, 8, 9], some 114⟩, ⟨[17, 21], [], [22], [1, 2, 3, 4, 5, 6, 7, 8, 9, 10], some 115⟩, ⟨[6], [], [23], [], some 116⟩, ⟨[22, 23], [], [24], [1, 2, 3, 4, 5, 6, 7, 8, 9, 10, 11, 12], some 117⟩, ⟨[3, 11], [], [25], [0, 1, 2, 3, 4, 5, 6, 7, 8, 9, 10, 11, 12, 13], some 118⟩, ⟨[25, 24], [10], [26], [0, 1, 2, 3, 4, 5, 6, 7, 8, 9, 10, 11, 12, 13, 14], none⟩] [0, 1, 2, 3, 4, 7, 8, 9, 26] mixed hn hG h (by kernel_rfl) ?_ ?_
            · exact ⟨⟨rfl, fun β => (GOk.plain (op_move (opt 0 rfl)) rfl)⟩, ⟨rfl, fun β => (GOk.plain (op_move (opt 0 rfl)) rfl)⟩, ⟨rfl, fun β => (GOk.plain (op_bin bin_sub (opt 0 rfl) (opc (ic (by decide)))) rfl)⟩, ⟨rfl, fun β => (GOk.plain (op_indexAddr_lb Tryd.underlying111 Tryd.sizeOf81 (opt 0 rfl) (opt 1 rfl) hv64) rfl)⟩, ⟨rfl, fun β => (GOk.plain (op_load_lbI (i := IntKind.wrap .i64 (x43 - 16)) [] [] 1 Tryd.isAgg81 (opt 0 rfl) rfl rfl hv64) rfl)⟩, ⟨rfl, fun β => (GOk.plain (op_move (opt 0 rfl)) rfl)⟩, ⟨rfl, fun β => (GOk.plain (op_bin bin_add (opt 0 rfl) (opt 1 rfl)) rfl)⟩, ⟨rfl, fun β => (GOk.plain (op_move (opt 0 rfl)) rfl)⟩, ⟨rfl, fun β => (GOk.plain (op_bin bin_sub (opt 0 rfl) (opc (ic (by decide)))) rfl)⟩, ⟨rfl, fun β => (GOk.plain (op_indexAddr_lb Tryd.underlying111 Tryd.sizeOf81 (opt 0 rfl) (opt 1 rfl) hv65) rfl)⟩, ⟨rfl, fun β => (GOk.plain (op_load_lbI (i := IntKind.wrap .i64 (x43 - 7)) [] [] 1 Tryd.isAgg81 (opt 0 rfl) rfl rfl hv65) rfl)⟩, ⟨rfl, fun β => (GOk.plain (op_bin bin_add (opt 0 rfl) (opt 1 rfl)) rfl)⟩, ⟨rfl, fun β => (GOk.plain (op_move (opt 0 rfl)) rfl)⟩, ⟨rfl, fun β => (GOk.plain (op_bin bin_add (opt 0 rfl) (opt 1 rfl)) rfl)⟩, ⟨rfl, fun β => (GOk.plain (op_indexAddr_lb Tryd.underlying111 Tryd.sizeOf81 (opt 0 rfl) (opt 1 rfl) hv66) rfl)⟩, ⟨rfl, fun β => (GOk.plain (op_store_lbI (i := x43) [] [] Tryd.sizeOf81 (opt 0 rfl) (opt 1 rfl) rfl hv66) rfl)⟩, trivial⟩
            clear h
            intro β a w h
            change SatL c [.slot 2 (lpVP p1 0), .slot 4 (lpVP p2 0), .slot 5 (lpVP p5 0), .slot 6 (lpVP p6 0), .slot 8 (intVP .i64 x43), .res (lb p1 85 [intsCk .u32 8 a_0]), .res (lb p2 85 [intsCk .u32 8 (List.replicate 8 0)]), .res (lb p5 111 [intsCk .u32 64 r4]), .res (lb p6 111 [intsCk .u32 64 (x44.set x43.toNat (IntKind.wrap .u32 ((IntKind.wrap .u32 ((IntKind.wrap .u32 ((x44.getD (IntKind.wrap .i64 (x43 - 16)).toNat 0) + (bits .xor .u32 (bits .xor .u32 r59 r60) (shr .u32 (x44.getD (IntKind.wrap .i64 (x43 - 15)).toNat 0) 3)))) + (x44.getD (IntKind.wrap .i64 (x43 - 7)).toNat 0))) + (bits .xor .u32 (bits .xor .u32 r62 r63) (shr .u32 (x44.getD (IntKind.wrap .i64 (x43 - 2)).toNat 0) 10)))))])] a w at h
            clear β
            show Code.wp Tryd.prog _ _ a w
            refine region_do (n := 231) [.slot 68 100000 100000 (fun _ _ => (intVP .i64 x43)),
      .slot 69 100000 100000 (fun _ _ => (intVP .i64 (IntKind.wrap .i64 (x43 + 1)))),
      .slot 8 100000 100000 (fun _ _ => (intVP .i64 (IntKind.wrap .i64 (x43 + 1))))] [0, 1, 2] [⟨[4], [], [9], [], some 68⟩, ⟨[9], [], [10], [0], some 69⟩, ⟨[10], [4], [11], [0, 1], some 8⟩] [0, 1, 2, 3, 11, 5, 6, 7, 8] mixed hn hG h (by kernel_rfl) ?_ ?_
            · exact ⟨⟨rfl, fun β => (GOk.plain (op_move (opt 0 rfl)) rfl)⟩, ⟨rfl, fun β => (GOk.plain (op_bin bin_add (opt 0 rfl) (opc (ic (by decide)))) rfl)⟩, ⟨rfl, fun β => (GOk.drop _ (GOk.plain (op_assign (opt 0 rfl)) rfl))⟩, trivial⟩
            clear h
            intro β a w h
            change SatL c [.slot 2 (lpVP p1 0), .slot 4 (lpVP p2 0), .slot 5 (lpVP p5 0), .slot 6 (lpVP p6 0), .slot 8 (intVP .i64 (IntKind.wrap .i64 (x43 + 1))), .res (lb p1 85 [intsCk .u32 8 a_0]), .res (lb p2 85 [intsCk .u32 8 (List.replicate 8 0)]), .res (lb p5 111 [intsCk .u32 64 r4]), .res (lb p6 111 [intsCk .u32 64 (x44.set x43.toNat (IntKind.wrap .u32 ((IntKind.wrap .u32 ((IntKind.wrap .u32 ((x44.getD (IntKind.wrap .i64 (x43 - 16)).toNat 0) + (bits .xor .u32 (bits .xor .u32 r59 r60) (shr .u32 (x44.getD (IntKind.wrap .i64 (x43 - 15)).toNat 0) 3)))) + (x44.getD (IntKind.wrap .i64 (x43 - 7)).toNat 0))) + (bits .xor .u32 (bits .xor .u32 r62 r63) (shr .u32 (x44.getD (IntKind.wrap .i64 (x43 - 2)).toNat 0) 10)))))])] a w at h
            clear β
            obtain rfl := Option.some.inj hF
            exact ⟨rfl, h.sub [0, 1, 2, 3, 4, 5, 6, 7, 8] (by rfl)⟩
          · replace hF := ff_of hb57 hF
            replace h := h.sub [0, 1, 2, 3, 4, 6, 7, 8, 9] (by rfl)
            change SatL c [.slot 2 (lpVP p1 0), .slot 4 (lpVP p2 0), .slot 5 (lpVP p5 0), .slot 6 (lpVP p6 0), .slot 8 (intVP .i64 x43), .res (lb p1 85 [intsCk .u32 8 a_0]), .res (lb p2 85 [intsCk .u32 8 (List.replicate 8 0)]), .res (lb p5 111 [intsCk .u32 64 r4]), .res (lb p6 111 [intsCk .u32 64 x44])] a w at h
            refine wp_exit ?_
            obtain rfl := Option.some.inj hF
            exact ⟨exit_ne _, rfl, h.sub [0, 1, 2, 3, 5, 6, 7, 8] (by rfl)⟩
        · clear hl68
          intro e a w hq
          cases cr67 with
          | ret r69 =>
            obtain ⟨rfl, hq⟩ := hq
            obtain rfl := Option.some.inj hF
            exact ⟨.inl rfl, hq⟩
          | next s70 =>
            obtain ⟨y71, y72⟩ := s70
            obtain ⟨rfl, h⟩ := hq
            change SatL c [.slot 2 (lpVP p1 0), .slot 4 (lpVP p2 0), .slot 5 (lpVP p5 0), .slot 6 (lpVP p6 0), .res (lb p1 85 [intsCk .u32 8 a_0]), .res (lb p2 85 [intsCk .u32 8 (List.replicate 8 0)]), .res (lb p5 111 [intsCk .u32 64 r4]), .res (lb p6 111 [intsCk .u32 64 y72])] a w at h
            refine inBlock_at ?_
            show Code.wp Tryd.prog _ _ a w
            refine wp_seq ?_
            refine region_do (n := 231) [.slot 119 100000 100000 (fun _ _ => (lpVP p1 (0 + (0 : Int).toNat * 1))),
      .slot 120 100000 100000 (fun _ _ => (intVP .u32 (a_0.getD (0 : Int).toNat 0))),
      .slot 121 100000 100000 (fun _ _ => (lpVP p1 (0 + (1 : Int).toNat * 1))),
      .slot 122 100000 100000 (fun _ _ => (intVP .u32 (a_0.getD (1 : Int).toNat 0))),
      .slot 123 100000 100000 (fun _ _ => (lpVP p1 (0 + (2 : Int).toNat * 1))),
      .slot 124 100000 100000 (fun _ _ => (intVP .u32 (a_0.getD (2 : Int).toNat 0))),
      .slot 125 100000 100000 (fun _ _ => (lpVP p1 (0 + (3 : Int).toNat * 1))),
      .slot 126 100000 100000 (fun _ _ => (intVP .u32 (a_0.getD (3 : Int).toNat 0))),
      .slot 127 100000 100000 (fun _ _ => (lpVP p1 (0 + (4 : Int).toNat * 1))),
      .slot 128 100000 100000 (fun _ _ => (intVP .u32 (a_0.getD (4 : Int).toNat 0))),
      .slot 129 100000 100000 (fun _ _ => (lpVP p1 (0 + (5 : Int).toNat * 1))),
      .slot 130 100000 100000 (fun _ _ => (intVP .u32 (a_0.getD (5 : Int).toNat 0))),
      .slot 131 100000 100000 (fun _ _ => (lpVP p1 (0 + (6 : Int).toNat * 1))),
      .slot 132 100000 100000 (fun _ _ => (intVP .u32 (a_0.getD (6 : Int).toNat 0))),
      .slot 133 100000 100000 (fun _ _ => (lpVP p1 (0 + (7 : Int).toNat * 1))),
      .slot 134 100000 100000 (fun _ _ => (intVP .u32 (a_0.getD (7 : Int).toNat 0))),
      .slot 11 100000 100000 (fun _ _ => (intVP .u32 (a_0.getD (0 : Int).toNat 0))),
      .slot 12 100000 100000 (fun _ _ => (intVP .u32 (a_0.getD (1 : Int).toNat 0))),
      .slot 13 100000 100000 (fun _ _ => (intVP .u32 (a_0.getD (2 : Int).toNat 0))),
      .slot 14 100000 100000 (fun _ _ => (intVP .u32 (a_0.getD (3 : Int).toNat 0))),
      .slot 15 100000 100000 (fun _ _ => (intVP .u32 (a_0.getD (4 : Int).toNat 0))),
      .slot 16 100000 100000 (fun _ _ => (intVP .u32 (a_0.getD (5 : Int).toNat 0))),
      .slot 17 100000 100000 (fun _ _ => (intVP .u32 (a_0.getD (6 : Int).toNat 0))),
      .slot 18 100000 100000 (fun _ _ => (intVP .u32 (a_0.getD (7 : Int).toNat 0)))] [0, 1, 2, 3, 4, 5, 6, 7, 8, 9, 10, 11, 12, 13, 14, 15, 16, 17, 18, 19, 20, 21, 22, 23] [⟨[0], [], [8], [], some 119⟩, ⟨[8, 4], [], [9], [0], some 120⟩, ⟨[0], [], [10], [], some 121⟩, ⟨[10, 4], [], [11], [2], some 122⟩, ⟨[0], [], [12], [], some 123⟩, ⟨[12, 4], [], [13], [4], some 124⟩, ⟨[0], [], [14], [], some 125⟩, ⟨[14, 4], [], [15], [6], some 126⟩, ⟨[0], [], [16], [], some 127⟩, ⟨[16, 4], [], [17], [8], some 128⟩, ⟨[0], [], [18], [], some 129⟩, ⟨[18, 4], [], [19], [10], some 130⟩, ⟨[0], [], [20], [], some 131⟩, ⟨[20, 4], [], [21], [12], some 132⟩, ⟨[0], [], [22], [], some 133⟩, ⟨[22, 4], [], [23], [14], some 134⟩, ⟨[9], [], [24], [0, 1], some 11⟩, ⟨[11], [], [25], [0, 1, 2, 3, 16], some 12⟩, ⟨[13], [], [26], [0, 1, 2, 3, 4, 5, 16, 17], some 13⟩, ⟨[15], [], [27], [0, 1, 2, 3, 4, 5, 6, 7, 16, 17, 18], some 14⟩, ⟨[17], [], [28], [0, 1, 2, 3, 4, 5, 6, 7, 8, 9, 16, 17, 18, 19], some 15⟩, ⟨[19], [], [29], [0, 1, 2, 3, 4, 5, 6, 7, 8, 9, 10, 11, 16, 17, 18, 19, 20], some 16⟩, ⟨[21], [], [30], [0, 1, 2, 3, 4, 5, 6, 7, 8, 9, 10, 11, 12, 13, 16, 17, 18, 19, 20, 21], some 17⟩, ⟨[23], [], [31], [0, 1, 2, 3, 4, 5, 6, 7, 8, 9, 10, 11, 12, 13, 14, 15, 16, 17, 18, 19, 20, 21, 22], some 18⟩] [0, 1, 2, 3, 24, 25, 26, 27, 28, 29, 30, 31, 4, 5, 6, 7] mixed hn hG h (by kernel_rfl) ?_ ?_
            · exact ⟨⟨rfl, fun β => (GOk.plain (op_indexAddr_lb Tryd.underlying85 Tryd.sizeOf81 (opt 0 rfl) (opc (ic (by decide))) (by decide)) rfl)⟩, ⟨rfl, fun β => (GOk.plain (op_load_lbI (i := 0) [] [] 1 Tryd.isAgg81 (opt 0 rfl) rfl rfl (by decide)) rfl)⟩, ⟨rfl, fun β => (GOk.plain (op_indexAddr_lb Tryd.underlying85 Tryd.sizeOf81 (opt 0 rfl) (opc (ic (by decide))) (by decide)) rfl)⟩, ⟨rfl, fun β => (GOk.plain (op_load_lbI (i := 1) [] [] 1 Tryd.isAgg81 (opt 0 rfl) rfl rfl (by decide)) rfl)⟩, ⟨rfl, fun β => (GOk.plain (op_indexAddr_lb Tryd.underlying85 Tryd.sizeOf81 (opt 0 rfl) (opc (ic (by decide))) (by decide)) rfl)⟩, ⟨rfl, fun β => (GOk.plain (op_load_lbI (i := 2) [] [] 1 Tryd.isAgg81 (opt 0 rfl) rfl rfl (by decide)) rfl)⟩, ⟨rfl, fun β => (GOk.plain (op_indexAddr_lb Tryd.underlying85 Tryd.sizeOf81 (opt 0 rfl) (opc (ic (by decide))) (by decide)) rfl)⟩, ⟨rfl, fun β => (GOk.plain (op_load_lbI (i := 3) [] [] 1 Tryd.isAgg81 (opt 0 rfl) rfl rfl (by decide)) rfl)⟩, ⟨rfl, fun β => (GOk.plain (op_indexAddr_lb Tryd.underlying85 Tryd.sizeOf81 (opt 0 rfl) (opc (ic (by decide))) (by decide)) rfl)⟩, ⟨rfl, fun β => (GOk.plain (op_load_lbI (i := 4) [] [] 1 Tryd.isAgg81 (opt 0 rfl) rfl rfl (by decide)) rfl)⟩, ⟨rfl, fun β => (GOk.plain (op_indexAddr_lb Tryd.underlying85 Tryd.sizeOf81 (opt 0 rfl) (opc (ic (by decide))) (by decide)) rfl)⟩, ⟨rfl, fun β => (GOk.plain (op_load_lbI (i := 5) [] [] 1 Tryd.isAgg81 (opt 0 rfl) rfl rfl (by decide)) rfl)⟩, ⟨rfl, fun β => (GOk.plain (op_indexAddr_lb Tryd.underlying85 Tryd.sizeOf81 (opt 0 rfl) (opc (ic (by decide))) (by decide)) rfl)⟩, ⟨rfl, fun β => (GOk.plain (op_load_lbI (i := 6) [] [] 1 Tryd.isAgg81 (opt 0 rfl) rfl rfl (by decide)) rfl)⟩, ⟨rfl, fun β => (GOk.plain (op_indexAddr_lb Tryd.underlying85 Tryd.sizeOf81 (opt 0 rfl) (opc (ic (by decide))) (by decide)) rfl)⟩, ⟨rfl, fun β => (GOk.plain (op_load_lbI (i := 7) [] [] 1 Tryd.isAgg81 (opt 0 rfl) rfl rfl (by decide)) rfl)⟩, ⟨rfl, fun β => (GOk.plain (op_assign (opt 0 rfl)) rfl)⟩, ⟨rfl, fun β => (GOk.plain (op_assign (opt 0 rfl)) rfl)⟩, ⟨rfl, fun β => (GOk.plain (op_assign (opt 0 rfl)) rfl)⟩, ⟨rfl, fun β => (GOk.plain (op_assign (opt 0 rfl)) rfl)⟩, ⟨rfl, fun β => (GOk.plain (op_assign (opt 0 rfl)) rfl)⟩, ⟨rfl, fun β => (GOk.plain (op_assign (opt 0 rfl)) rfl)⟩, ⟨rfl, fun β => (GOk.plain (op_assign (opt 0 rfl)) rfl)⟩, ⟨rfl, fun β => (GOk.plain (op_assign (opt 0 rfl)) rfl)⟩, trivial⟩
            clear h
            intro β a w h
            change SatL c [.slot 2 (lpVP p1 0), .slot 4 (lpVP p2 0), .slot 5 (lpVP p5 0), .slot 6 (lpVP p6 0), .slot 11 (intVP .u32 (a_0.getD (0 : Int).toNat 0)), .slot 12 (intVP .u32 (a_0.getD (1 : Int).toNat 0)), .slot 13 (intVP .u32 (a_0.getD (2 : Int).toNat 0)), .slot 14 (intVP .u32 (a_0.getD (3 : Int).toNat 0)), .slot 15 (intVP .u32 (a_0.getD (4 : Int).toNat 0)), .slot 16 (intVP .u32 (a_0.getD (5 : Int).toNat 0)), .slot 17 (intVP .u32 (a_0.getD (6 : Int).toNat 0)), .slot 18 (intVP .u32 (a_0.getD (7 : Int).toNat 0)), .res (lb p1 85 [intsCk .u32 8 a_0]), .res (lb p2 85 [intsCk .u32 8 (List.replicate 8 0)]), .res (lb p5 111 [intsCk .u32 64 r4]), .res (lb p6 111 [intsCk .u32 64 y72])] a w at h
            clear β
            show Code.wp Tryd.prog _ _ a w
            refine wp_seq ?_
            refine wp_seq ?_
            refine region_do (n := 231) [.slot 19 100000 100000 (fun _ _ => (intVP .i64 0))] [0] [⟨[], [], [16], [], some 19⟩] [0, 1, 2, 3, 4, 5, 6, 7, 8, 9, 10, 11, 16, 12, 13, 14, 15] mixed hn hG h (by kernel_rfl) ?_ ?_
            · exact ⟨⟨rfl, fun β => (GOk.plain (op_assign (opc (ic (by decide)))) rfl)⟩, trivial⟩
            clear h
            intro β a w h
            change SatL c [.slot 2 (lpVP p1 0), .slot 4 (lpVP p2 0), .slot 5 (lpVP p5 0), .slot 6 (lpVP p6 0), .slot 11 (intVP .u32 (a_0.getD (0 : Int).toNat 0)), .slot 12 (intVP .u32 (a_0.getD (1 : Int).toNat 0)), .slot 13 (intVP .u32 (a_0.getD (2 : Int).toNat 0)), .slot 14 (intVP .u32 (a_0.getD (3 : Int).toNat 0)), .slot 15 (intVP .u32 (a_0.getD (4 : Int).toNat 0)), .slot 16 (intVP .u32 (a_0.getD (5 : Int).toNat 0)), .slot 17 (intVP .u32 (a_0.getD (6 : Int).toNat 0)), .slot 18 (intVP .u32 (a_0.getD (7 : Int).toNat 0)), .slot 19 (intVP .i64 0), .res (lb p1 85 [intsCk .u32 8 a_0]), .res (lb p2 85 [intsCk .u32 8 (List.replicate 8 0)]), .res (lb p5 111 [intsCk .u32 64 r4]), .res (lb p6 111 [intsCk .u32 64 y72])] a w at h
            clear β
            show Code.wp Tryd.prog _ _ a w
            refine wp_block ?_
            obtain ⟨cr114, hl115, hF⟩ := bind_some hF
            refine wp_mono (wp_loopN (R := (List Int)) (S := Int × Int × Int × Int × Int × Int × Int × Int × Int) (fun s a w => SatL c [.slot 2 (lpVP p1 0), .slot 4 (lpVP p2 0), .slot 5 (lpVP p5 0), .slot 6 (lpVP p6 0), .slot 11 (intVP .u32 s.1), .slot 12 (intVP .u32 s.2.1), .slot 13 (intVP .u32 s.2.2.1), .slot 14 (intVP .u32 s.2.2.2.1), .slot 15 (intVP .u32 s.2.2.2.2.1), .slot 16 (intVP .u32 s.2.2.2.2.2.1), .slot 17 (intVP .u32 s.2.2.2.2.2.2.1), .slot 18 (intVP .u32 s.2.2.2.2.2.2.2.1), .slot 19 (intVP .i64 s.2.2.2.2.2.2.2.2), .res (lb p1 85 [intsCk .u32 8 a_0]), .res (lb p2 85 [intsCk .u32 8 (List.replicate 8 0)]), .res (lb p5 111 [intsCk .u32 64 r4]), .res (lb p6 111 [intsCk .u32 64 y72])] a w) (fun res e a w => match res with | .next s => e = .exit 4 ∧ SatL c [.slot 2 (lpVP p1 0), .slot 4 (lpVP p2 0), .slot 11 (intVP .u32 s.1), .slot 12 (intVP .u32 s.2.1), .slot 13 (intVP .u32 s.2.2.1), .slot 14 (intVP .u32 s.2.2.2.1), .slot 15 (intVP .u32 s.2.2.2.2.1), .slot 16 (intVP .u32 s.2.2.2.2.2.1), .slot 17 (intVP .u32 s.2.2.2.2.2.2.1), .slot 18 (intVP .u32 s.2.2.2.2.2.2.2.1), .res (lb p1 85 [intsCk .u32 8 a_0]), .res (lb p2 85 [intsCk .u32 8 (List.replicate 8 0)])] a w | .ret r => e = .ret ∧ RetOk Tryd.prog Tryd.f66 c (aggVP [intsCk .u32 8 r]) (fun _ => []) a w) ?_ _ (a_0.getD (0 : Int).toNat 0, a_0.getD (1 : Int).toNat 0, a_0.getD (2 : Int).toNat 0, a_0.getD (3 : Int).toNat 0, a_0.getD (4 : Int).toNat 0, a_0.getD (5 : Int).toNat 0, a_0.getD (6 : Int).toNat 0, a_0.getD (7 : Int).toNat 0, 0) _ _ _ (h.sub [0, 1, 2, 3, 4, 5, 6, 7, 8, 9, 10, 11, 12, 13, 14, 15, 16] (by rfl)) hl115) ?_
            · clear hl115 hF h
              intro s a w o h hF
              obtain ⟨x80, x81, x82, x83, x84, x85, x86, x87, x88⟩ := s
              change ref01_Block.b3 r4 y72 x80 x81 x82 x83 x84 x85 x86 x87 x88 = some o at hF
              unfold ref01_Block.b3 at hF
              change SatL c [.slot 2 (lpVP p1 0), .slot 4 (lpVP p2 0), .slot 5 (lpVP p5 0), .slot 6 (lpVP p6 0), .slot 11 (intVP .u32 x80), .slot 12 (intVP .u32 x81), .slot 13 (intVP .u32 x82), .slot 14 (intVP .u32 x83), .slot 15 (intVP .u32 x84), .slot 16 (intVP .u32 x85), .slot 17 (intVP .u32 x86), .slot 18 (intVP .u32 x87), .slot 19 (intVP .i64 x88), .res (lb p1 85 [intsCk .u32 8 a_0]), .res (lb p2 85 [intsCk .u32 8 (List.replicate 8 0)]), .res (lb p5 111 [intsCk .u32 64 r4]), .res (lb p6 111 [intsCk .u32 64 y72])] a w at h
              refine wp_seq ?_
              refine wp_seq ?_
              refine region_do (n := 231) [.slot 135 100000 100000 (fun _ _ => (intVP .i64 x88)),
      .slot 136 100000 100000 (fun _ _ => (boolVP (decide (x88 < (64 : Int)))))] [0, 1] [⟨[12], [], [17], [], some 135⟩, ⟨[17], [], [18], [0], some 136⟩] [0, 1, 2, 3, 4, 5, 6, 7, 8, 9, 10, 11, 12, 18, 13, 14, 15, 16] mixed hn hG h (by kernel_rfl) ?_ ?_
              · exact ⟨⟨rfl, fun β => (GOk.plain (op_move (opt 0 rfl)) rfl)⟩, ⟨rfl, fun β => (GOk.plain (op_bin bin_lss (opt 0 rfl) (opc (ic (by decide)))) rfl)⟩, trivial⟩
              clear h
              intro β a w h
              change SatL c [.slot 2 (lpVP p1 0), .slot 4 (lpVP p2 0), .slot 5 (lpVP p5 0), .slot 6 (lpVP p6 0), .slot 11 (intVP .u32 x80), .slot 12 (intVP .u32 x81), .slot 13 (intVP .u32 x82), .slot 14 (intVP .u32 x83), .slot 15 (intVP .u32 x84), .slot 16 (intVP .u32 x85), .slot 17 (intVP .u32 x86), .slot 18 (intVP .u32 x87), .slot 19 (intVP .i64 x88), .slot 136 (boolVP (decide (x88 < (64 : Int)))), .res (lb p1 85 [intsCk .u32 8 a_0]), .res (lb p2 85 [intsCk .u32 8 (List.replicate 8 0)]), .res (lb p5 111 [intsCk .u32 64 r4]), .res (lb p6 111 [intsCk .u32 64 y72])] a w at h
              clear β
              show Code.wp Tryd.prog _ _ a w
              refine cond_L h 13 rfl (fun hb106 => ?_) (fun hb106 => ?_)
              · replace hF := tt_of hb106 hF
                replace h := h.sub [0, 1, 2, 3, 4, 5, 6, 7, 8, 9, 10, 11, 12, 14, 15, 16, 17] (by rfl)
                change SatL c [.slot 2 (lpVP p1 0), .slot 4 (lpVP p2 0), .slot 5 (lpVP p5 0), .slot 6 (lpVP p6 0), .slot 11 (intVP .u32 x80), .slot 12 (intVP .u32 x81), .slot 13 (intVP .u32 x82), .slot 14 (intVP .u32 x83), .slot 15 (intVP .u32 x84), .slot 16 (intVP .u32 x85), .slot 17 (intVP .u32 x86), .slot 18 (intVP .u32 x87), .slot 19 (intVP .i64 x88), .res (lb p1 85 [intsCk .u32 8 a_0]), .res (lb p2 85 [intsCk .u32 8 (List.replicate 8 0)]), .res (lb p5 111 [intsCk .u32 64 r4]), .res (lb p6 111 [intsCk .u32 64 y72])] a w at h
                refine wp_skip ?_
                show Code.wp Tryd.prog _ _ a w
                refine wp_seq ?_
                refine wp_block ?_
                refine wp_seq ?_
                obtain ⟨r107, hr107, hF⟩ := bind_some hF
                obtain ⟨r108, hr108, hF⟩ := bind_some hF
                obtain ⟨r109, hr109, hF⟩ := bind_some hF
                obtain ⟨hv110, hF⟩ := ite_some hF
                refine region_do (n := 231) [.slot 139 100000 100000 (fun _ _ => (intVP .u32 x87)),
      .slot 140 100000 100000 (fun _ _ => (intVP .u32 x84)),
      .slot 141 100000 100000 (fun _ _ => (intVP .u32 r107)),
      .slot 142 100000 100000 (fun _ _ => (intVP .u32 x84)),
      .slot 143 100000 100000 (fun _ _ => (intVP .u32 r108)),
      .slot 144 100000 100000 (fun _ _ => (intVP .u32 (bits .xor .u32 r107 r108))),
      .slot 145 100000 100000 (fun _ _ => (intVP .u32 x84)),
      .slot 146 100000 100000 (fun _ _ => (intVP .u32 r109)),
      .slot 147 100000 100000 (fun _ _ => (intVP .u32 (bits .xor .u32 (bits .xor .u32 r107 r108) r109))),
      .slot 148 100000 100000 (fun _ _ => (intVP .u32 (IntKind.wrap .u32 (x87 + (bits .xor .u32 (bits .xor .u32 r107 r108) r109))))),
      .slot 149 100000 100000 (fun _ _ => (intVP .u32 x84)),
      .slot 150 100000 100000 (fun _ _ => (intVP .u32 x85)),
      .slot 151 100000 100000 (fun _ _ => (intVP .u32 (bits .and .u32 x84 x85))),
      .slot 152 100000 100000 (fun _ _ => (intVP .u32 x84)),
      .slot 153 100000 100000 (fun _ _ => (intVP .u32 (bits .xor .u32 4294967295 x84))),
      .slot 154 100000 100000 (fun _ _ => (intVP .u32 x86)),
      .slot 155 100000 100000 (fun _ _ => (intVP .u32 (bits .and .u32 (bits .xor .u32 4294967295 x84) x86))),
      .slot 156 100000 100000 (fun _ _ => (intVP .u32 (bits .xor .u32 (bits .and .u32 x84 x85) (bits .and .u32 (bits .xor .u32 4294967295 x84) x86)))),
      .slot 157 100000 100000 (fun _ _ => (intVP .u32 (IntKind.wrap .u32 ((IntKind.wrap .u32 (x87 + (bits .xor .u32 (bits .xor .u32 r107 r108) r109))) + (bits .xor .u32 (bits .and .u32 x84 x85) (bits .and .u32 (bits .xor .u32 4294967295 x84) x86)))))),
      .slot 158 100000 100000 (fun _ _ => (intVP .i64 x88)),
      .slot 159 100000 100000 (fun _ _ => (lpVP p5 (0 + x88.toNat * 1))),
      .slot 160 100000 100000 (fun _ _ => (intVP .u32 (r4.getD x88.toNat 0))),
      .slot 161 100000 100000 (fun _ _ => (intVP .u32 (IntKind.wrap .u32 ((IntKind.wrap .u32 ((IntKind.wrap .u32 (x87 + (bits .xor .u32 (bits .xor .u32 r107 r108) r109))) + (bits .xor .u32 (bits .and .u32 x84 x85) (bits .and .u32 (bits .xor .u32 4294967295 x84) x86)))) + (r4.getD x88.toNat 0))))),
      .slot 162 100000 100000 (fun _ _ => (intVP .i64 x88)),
      .slot 163 100000 100000 (fun _ _ => (lpVP p6 (0 + x88.toNat * 1))),
      .slot 164 100000 100000 (fun _ _ => (intVP .u32 (y72.getD x88.toNat 0))),
      .slot 165 100000 100000 (fun _ _ => (intVP .u32 (IntKind.wrap .u32 ((IntKind.wrap .u32 ((IntKind.wrap .u32 ((IntKind.wrap .u32 (x87 + (bits .xor .u32 (bits .xor .u32 r107 r108) r109))) + (bits .xor .u32 (bits .and .u32 x84 x85) (bits .and .u32 (bits .xor .u32 4294967295 x84) x86)))) + (r4.getD x88.toNat 0))) + (y72.getD x88.toNat 0))))),
      .slot 20 100000 100000 (fun _ _ => (intVP .u32 (IntKind.wrap .u32 ((IntKind.wrap .u32 ((IntKind.wrap .u32 ((IntKind.wrap .u32 (x87 + (bits .xor .u32 (bits .xor .u32 r107 r108) r109))) + (bits .xor .u32 (bits .and .u32 x84 x85) (bits .and .u32 (bits .xor .u32 4294967295 x84) x86)))) + (r4.getD x88.toNat 0))) + (y72.getD x88.toNat 0)))))] [0, 1, 2, 3, 4, 5, 6, 7, 8, 9, 10, 11, 12, 13, 14, 15, 16, 17, 18, 19, 20, 21, 22, 23, 24, 25, 26, 27] [⟨[11], [], [17], [], some 139⟩, ⟨[8], [], [18], [], some 140⟩, ⟨[18], [], [19], [1], some 141⟩, ⟨[8], [], [20], [], some 142⟩, ⟨[20], [], [21], [1, 2, 3], some 143⟩, ⟨[19, 21], [], [22], [1, 2, 3, 4], some 144⟩, ⟨[8], [], [23], [], some 145⟩, ⟨[23], [], [24], [1, 2, 3, 4, 6], some 146⟩, ⟨[22, 24], [], [25], [1, 2, 3, 4, 5, 6, 7], some 147⟩, ⟨[17, 25], [], [26], [0, 1, 2, 3, 4, 5, 6, 7, 8], some 148⟩, ⟨[8], [], [27], [], some 149⟩, ⟨[9], [], [28], [], some 150⟩, ⟨[27, 28], [], [29], [10, 11], some 151⟩, ⟨[8], [], [30], [], some 152⟩, ⟨[30], [], [31], [13], some 153⟩, ⟨[10], [], [32], [], some 154⟩, ⟨[31, 32], [], [33], [13, 14, 15], some 155⟩, ⟨[29, 33], [], [34], [10, 11, 12, 13, 14, 15, 16], some 156⟩, ⟨[26, 34], [], [35], [0, 1, 2, 3, 4, 5, 6, 7, 8, 9, 10, 11, 12, 13, 14, 15, 16, 17], some 157⟩, ⟨[12], [], [36], [], some 158⟩, ⟨[2, 36], [], [37], [19], some 159⟩, ⟨[37, 15], [], [38], [19, 20], some 160⟩, ⟨[35, 38], [], [39], [0, 1, 2, 3, 4, 5, 6, 7, 8, 9, 10, 11, 12, 13, 14, 15, 16, 17, 18, 19, 20, 21], some 161⟩, ⟨[12], [], [40], [], some 162⟩, ⟨[3, 40], [], [41], [23], some 163⟩, ⟨[41, 16], [], [42], [23, 24], some 164⟩, ⟨[39, 42], [], [43], [0, 1, 2, 3, 4, 5, 6, 7, 8, 9, 10, 11, 12, 13, 14, 15, 16, 17, 18, 19, 20, 21, 22, 23, 24, 25], some 165⟩, ⟨[43], [], [44], [0, 1, 2, 3, 4, 5, 6, 7, 8, 9, 10, 11, 12, 13, 14, 15, 16, 17, 18, 19, 20, 21, 22, 23, 24, 25, 26], some 20⟩] [0, 1, 2, 3, 4, 5, 6, 7, 8, 9, 10, 12, 44, 13, 14, 15, 16] mixed hn hG h (by kernel_rfl) ?_ ?_
                · exact ⟨⟨rfl, fun β => (GOk.plain (op_move (opt 0 rfl)) rfl)⟩, ⟨rfl, fun β => (GOk.plain (op_move (opt 0 rfl)) rfl)⟩, ⟨rfl, fun β => (GOk.plain (op_call Tryd.call75 (ref01_turn_ok hr107) ⟨(opt 0 rfl), (opc (ic (by decide))), trivial⟩) rfl)⟩, ⟨rfl, fun β => (GOk.plain (op_move (opt 0 rfl)) rfl)⟩, ⟨rfl, fun β => (GOk.plain (op_call Tryd.call75 (ref01_turn_ok hr108) ⟨(opt 0 rfl), (opc (ic (by decide))), trivial⟩) rfl)⟩, ⟨rfl, fun β => (GOk.plain (op_bin bin_xor (opt 0 rfl) (opt 1 rfl)) rfl)⟩, ⟨rfl, fun β => (GOk.plain (op_move (opt 0 rfl)) rfl)⟩, ⟨rfl, fun β => (GOk.plain (op_call Tryd.call75 (ref01_turn_ok hr109) ⟨(opt 0 rfl), (opc (ic (by decide))), trivial⟩) rfl)⟩, ⟨rfl, fun β => (GOk.plain (op_bin bin_xor (opt 0 rfl) (opt 1 rfl)) rfl)⟩, ⟨rfl, fun β => (GOk.plain (op_bin bin_add (opt 0 rfl) (opt 1 rfl)) rfl)⟩, ⟨rfl, fun β => (GOk.plain (op_move (opt 0 rfl)) rfl)⟩, ⟨rfl, fun β => (GOk.plain (op_move (opt 0 rfl)) rfl)⟩, ⟨rfl, fun β => (GOk.plain (op_bin bin_and (opt 0 rfl) (opt 1 rfl)) rfl)⟩, ⟨rfl, fun β => (GOk.plain (op_move (opt 0 rfl)) rfl)⟩, ⟨rfl, fun β => (GOk.plain (op_bin bin_xor (opc (ic (by decide))) (opt 0 rfl)) rfl)⟩, ⟨rfl, fun β => (GOk.plain (op_move (opt 0 rfl)) rfl)⟩, ⟨rfl, fun β => (GOk.plain (op_bin bin_and (opt 0 rfl) (opt 1 rfl)) rfl)⟩, ⟨rfl, fun β => (GOk.plain (op_bin bin_xor (opt 0 rfl) (opt 1 rfl)) rfl)⟩, ⟨rfl, fun β => (GOk.plain (op_bin bin_add (opt 0 rfl) (opt 1 rfl)) rfl)⟩, ⟨rfl, fun β => (GOk.plain (op_move (opt 0 rfl)) rfl)⟩, ⟨rfl, fun β => (GOk.plain (op_indexAddr_lb Tryd.underlying111 Tryd.sizeOf81 (opt 0 rfl) (opt 1 rfl) hv110) rfl)⟩, ⟨rfl, fun β => (GOk.plain (op_load_lbI (i := x88) [] [] 1 Tryd.isAgg81 (opt 0 rfl) rfl rfl hv110) rfl)⟩, ⟨rfl, fun β => (GOk.plain (op_bin bin_add (opt 0 rfl) (opt 1 rfl)) rfl)⟩, ⟨rfl, fun β => (GOk.plain (op_move (opt 0 rfl)) rfl)⟩, ⟨rfl, fun β => (GOk.plain (op_indexAddr_lb Tryd.underlying111 Tryd.sizeOf81 (opt 0 rfl) (opt 1 rfl) hv110) rfl)⟩, ⟨rfl, fun β => (GOk.plain (op_load_lbI (i := x88) [] [] 1 Tryd.isAgg81 (opt 0 rfl) rfl rfl hv110) rfl)⟩, ⟨rfl, fun β => (GOk.plain (op_bin bin_add (opt 0 rfl) (opt 1 rfl)) rfl)⟩, ⟨rfl, fun β => (GOk.plain (op_assign (opt 0 rfl)) rfl)⟩, trivial⟩
                clear h
                intro β a w h
                change SatL c [.slot 2 (lpVP p1 0), .slot 4 (lpVP p2 0), .slot 5 (lpVP p5 0), .slot 6 (lpVP p6 0), .slot 11 (intVP .u32 x80), .slot 12 (intVP .u32 x81), .slot 13 (intVP .u32 x82), .slot 14 (intVP .u32 x83), .slot 15 (intVP .u32 x84), .slot 16 (intVP .u32 x85), .slot 17 (intVP .u32 x86), .slot 19 (intVP .i64 x88), .slot 20 (intVP .u32 (IntKind.wrap .u32 ((IntKind.wrap .u32 ((IntKind.wrap .u32 ((IntKind.wrap .u32 (x87 + (bits .xor .u32 (bits .xor .u32 r107 r108) r109))) + (bits .xor .u32 (bits .and .u32 x84 x85) (bits .and .u32 (bits .xor .u32 4294967295 x84) x86)))) + (r4.getD x88.toNat 0))) + (y72.getD x88.toNat 0)))), .res (lb p1 85 [intsCk .u32 8 a_0]), .res (lb p2 85 [intsCk .u32 8 (List.replicate 8 0)]), .res (lb p5 111 [intsCk .u32 64 r4]), .res (lb p6 111 [intsCk .u32 64 y72])] a w at h
                clear β
                show Code.wp Tryd.prog _ _ a w
                refine wp_seq ?_
                obtain ⟨r111, hr111, hF⟩ := bind_some hF
                obtain ⟨r112, hr112, hF⟩ := bind_some hF
                obtain ⟨r113, hr113, hF⟩ := bind_some hF
                refine region_do (n := 231) [.slot 166 100000 100000 (fun _ _ => (intVP .u32 x80)),
      .slot 167 100000 100000 (fun _ _ => (intVP .u32 r111)),
      .slot 168 100000 100000 (fun _ _ => (intVP .u32 x80)),
      .slot 169 100000 100000 (fun _ _ => (intVP .u32 r112)),
      .slot 170 100000 100000 (fun _ _ => (intVP .u32 (bits .xor .u32 r111 r112))),
      .slot 171 100000 100000 (fun _ _ => (intVP .u32 x80)),
      .slot 172 100000 100000 (fun _ _ => (intVP .u32 r113)),
      .slot 173 100000 100000 (fun _ _ => (intVP .u32 (bits .xor .u32 (bits .xor .u32 r111 r112) r113))),
      .slot 174 100000 100000 (fun _ _ => (intVP .u32 x80)),
      .slot 175 100000 100000 (fun _ _ => (intVP .u32 x81)),
      .slot 176 100000 100000 (fun _ _ => (intVP .u32 (bits .and .u32 x80 x81))),
      .slot 177 100000 100000 (fun _ _ => (intVP .u32 x80)),
      .slot 178 100000 100000 (fun _ _ => (intVP .u32 x82)),
      .slot 179 100000 100000 (fun _ _ => (intVP .u32 (bits .and .u32 x80 x82))),
      .slot 180 100000 100000 (fun _ _ => (intVP .u32 (bits .xor .u32 (bits .and .u32 x80 x81) (bits .and .u32 x80 x82)))),
      .slot 181 100000 100000 (fun _ _ => (intVP .u32 x81)),
      .slot 182 100000 100000 (fun _ _ => (intVP .u32 x82)),
      .slot 183 100000 100000 (fun _ _ => (intVP .u32 (bits .and .u32 x81 x82))),
      .slot 184 100000 100000 (fun _ _ => (intVP .u32 (bits .xor .u32 (bits .xor .u32 (bits .and .u32 x80 x81) (bits .and .u32 x80 x82)) (bits .and .u32 x81 x82)))),
      .slot 185 100000 100000 (fun _ _ => (intVP .u32 (IntKind.wrap .u32 ((bits .xor .u32 (bits .xor .u32 r111 r112) r113) + (bits .xor .u32 (bits .xor .u32 (bits .and .u32 x80 x81) (bits .and .u32 x80 x82)) (bits .and .u32 x81 x82)))))),
      .slot 21 100000 100000 (fun _ _ => (intVP .u32 (IntKind.wrap .u32 ((bits .xor .u32 (bits .xor .u32 r111 r112) r113) + (bits .xor .u32 (bits .xor .u32 (bits .and .u32 x80 x81) (bits .and .u32 x80 x82)) (bits .and .u32 x81 x82))))))] [0, 1, 2, 3, 4, 5, 6, 7, 8, 9, 10, 11, 12, 13, 14, 15, 16, 17, 18, 19, 20] [⟨[4], [], [17], [], some 166⟩, ⟨[17], [], [18], [0], some 167⟩, ⟨[4], [], [19], [0, 1], some 168⟩, ⟨[19], [], [20], [0, 1, 2], some 169⟩, ⟨[18, 20], [], [21], [0, 1, 2, 3], some 170⟩, ⟨[4], [], [22], [0, 1, 2, 3, 4], some 171⟩, ⟨[22], [], [23], [0, 1, 2, 3, 4, 5], some 172⟩, ⟨[21, 23], [], [24], [0, 1, 2, 3, 4, 5, 6], some 173⟩, ⟨[4], [], [25], [0, 1, 2, 3, 4, 5, 6, 7], some 174⟩, ⟨[5], [], [26], [0, 1, 2, 3, 4, 5, 6, 7, 8], some 175⟩, ⟨[25, 26], [], [27], [0, 1, 2, 3, 4, 5, 6, 7, 8, 9], some 176⟩, ⟨[4], [], [28], [0, 1, 2, 3, 4, 5, 6, 7, 8, 9, 10], some 177⟩, ⟨[6], [], [29], [0, 1, 2, 3, 4, 5, 6, 7, 8, 9, 10, 11], some 178⟩, ⟨[28, 29], [], [30], [0, 1, 2, 3, 4, 5, 6, 7, 8, 9, 10, 11, 12], some 179⟩, ⟨[27, 30], [], [31], [0, 1, 2, 3, 4, 5, 6, 7, 8, 9, 10, 11, 12, 13], some 180⟩, ⟨[5], [], [32], [0, 1, 2, 3, 4, 5, 6, 7, 8, 9, 10, 11, 12, 13, 14], some 181⟩, ⟨[6], [], [33], [0, 1, 2, 3, 4, 5, 6, 7, 8, 9, 10, 11, 12, 13, 14, 15], some 182⟩, ⟨[32, 33], [], [34], [0, 1, 2, 3, 4, 5, 6, 7, 8, 9, 10, 11, 12, 13, 14, 15, 16], some 183⟩, ⟨[31, 34], [], [35], [0, 1, 2, 3, 4, 5, 6, 7, 8, 9, 10, 11, 12, 13, 14, 15, 16, 17], some 184⟩, ⟨[24, 35], [], [36], [0, 1, 2, 3, 4, 5, 6, 7, 8, 9, 10, 11, 12, 13, 14, 15, 16, 17, 18], some 185⟩, ⟨[36], [], [37], [0, 1, 2, 3, 4, 5, 6, 7, 8, 9, 10, 11, 12, 13, 14, 15, 16, 17, 18, 19], some 21⟩] [0, 1, 2, 3, 4, 5, 6, 7, 8, 9, 10, 11, 12, 37, 13, 14, 15, 16] mixed hn hG h (by kernel_rfl) ?_ ?_
                · exact ⟨⟨rfl, fun β => (GOk.plain (op_move (opt 0 rfl)) rfl)⟩, ⟨rfl, fun β => (GOk.plain (op_call Tryd.call75 (ref01_turn_ok hr111) ⟨(opt 0 rfl), (opc (ic (by decide))), trivial⟩) rfl)⟩, ⟨rfl, fun β => (GOk.plain (op_move (opt 0 rfl)) rfl)⟩, ⟨rfl, fun β => (GOk.plain (op_call Tryd.call75 (ref01_turn_ok hr112) ⟨(opt 0 rfl), (opc (ic (by decide))), trivial⟩) rfl)⟩, ⟨rfl, fun β => (GOk.plain (op_bin bin_xor (opt 0 rfl) (opt 1 rfl)) rfl)⟩, ⟨rfl, fun β => (GOk.plain (op_move (opt 0 rfl)) rfl)⟩, ⟨rfl, fun β => (GOk.plain (op_call Tryd.call75 (ref01_turn_ok hr113) ⟨(opt 0 rfl), (opc (ic (by decide))), trivial⟩) rfl)⟩, ⟨rfl, fun β => (GOk.plain (op_bin bin_xor (opt 0 rfl) (opt 1 rfl)) rfl)⟩, ⟨rfl, fun β => (GOk.plain (op_move (opt 0 rfl)) rfl)⟩, ⟨rfl, fun β => (GOk.plain (op_move (opt 0 rfl)) rfl)⟩, ⟨rfl, fun β => (GOk.plain (op_bin bin_and (opt 0 rfl) (opt 1 rfl)) rfl)⟩, ⟨rfl, fun β => (GOk.plain (op_move (opt 0 rfl)) rfl)⟩, ⟨rfl, fun β => (GOk.plain (op_move (opt 0 rfl)) rfl)⟩, ⟨rfl, fun β => (GOk.plain (op_bin bin_and (opt 0 rfl) (opt 1 rfl)) rfl)⟩, ⟨rfl, fun β => (GOk.plain (op_bin bin_xor (opt 0 rfl) (opt 1 rfl)) rfl)⟩, ⟨rfl, fun β => (GOk.plain (op_move (opt 0 rfl)) rfl)⟩, ⟨rfl, fun β => (GOk.plain (op_move (opt 0 rfl)) rfl)⟩, ⟨rfl, fun β => (GOk.plain (op_bin bin_and (opt 0 rfl) (opt 1 rfl)) rfl)⟩, ⟨rfl, fun β => (GOk.plain (op_bin bin_xor (opt 0 rfl) (opt 1 rfl)) rfl)⟩, ⟨rfl, fun β => (GOk.plain (op_bin bin_add (opt 0 rfl) (opt 1 rfl)) rfl)⟩, ⟨rfl, fun β => (GOk.plain (op_assign (opt 0 rfl)) rfl)⟩, trivial⟩
                clear h
                intro β a w h
                change SatL c [.slot 2 (lpVP p1 0), .slot 4 (lpVP p2 0), .slot 5 (lpVP p5 0), .slot 6 (lpVP p6 0), .slot 11 (intVP .u32 x80), .slot 12 (intVP .u32 x81), .slot 13 (intVP .u32 x82), .slot 14 (intVP .u32 x83), .slot 15 (intVP .u32 x84), .slot 16 (intVP .u32 x85), .slot 17 (intVP .u32 x86), .slot 19 (intVP .i64 x88), .slot 20 (intVP .u32 (IntKind.wrap .u32 ((IntKind.wrap .u32 ((IntKind.wrap .u32 ((IntKind.wrap .u32 (x87 + (bits .xor .u32 (bits .xor .u32 r107 r108) r109))) + (bits .xor .u32 (bits .and .u32 x84 x85) (bits .and .u32 (bits .xor .u32 4294967295 x84) x86)))) + (r4.getD x88.toNat 0))) + (y72.getD x88.toNat 0)))), .slot 21 (intVP .u32 (IntKind.wrap .u32 ((bits .xor .u32 (bits .xor .u32 r111 r112) r113) + (bits .xor .u32 (bits .xor .u32 (bits .and .u32 x80 x81) (bits .and .u32 x80 x82)) (bits .and .u32 x81 x82))))), .res (lb p1 85 [intsCk .u32 8 a_0]), .res (lb p2 85 [intsCk .u32 8 (List.replicate 8 0)]), .res (lb p5 111 [intsCk .u32 64 r4]), .res (lb p6 111 [intsCk .u32 64 y72])] a w at h
                clear β
                show Code.wp Tryd.prog _ _ a w
                refine wp_seq ?_
                refine region_do (n := 231) [.slot 186 100000 100000 (fun _ _ => (intVP .u32 x86)),
      .slot 18 100000 100000 (fun _ _ => (intVP .u32 x86))] [0, 1] [⟨[10], [], [18], [], some 186⟩, ⟨[18], [], [19], [0], some 18⟩] [0, 1, 2, 3, 4, 5, 6, 7, 8, 9, 19, 11, 12, 13, 14, 15, 16, 17] mixed hn hG h (by kernel_rfl) ?_ ?_
                · exact ⟨⟨rfl, fun β => (GOk.plain (op_move (opt 0 rfl)) rfl)⟩, ⟨rfl, fun β => (GOk.plain (op_assign (opt 0 rfl)) rfl)⟩, trivial⟩
                clear h
                intro β a w h
                change SatL c [.slot 2 (lpVP p1 0), .slot 4 (lpVP p2 0), .slot 5 (lpVP p5 0), .slot 6 (lpVP p6 0), .slot 11 (intVP .u32 x80), .slot 12 (intVP .u32 x81), .slot 13 (intVP .u32 x82), .slot 14 (intVP .u32 x83), .slot 15 (intVP .u32 x84), .slot 16 (intVP .u32 x85), .slot 18 (intVP .u32 x86), .slot 19 (intVP .i64 x88), .slot 20 (intVP .u32 (IntKind.wrap .u32 ((IntKind.wrap .u32 ((IntKind.wrap .u32 ((IntKind.wrap .u32 (x87 + (bits .xor .u32 (bits .xor .u32 r107 r108) r109))) + (bits .xor .u32 (bits .and .u32 x84 x85) (bits .and .u32 (bits .xor .u32 4294967295 x84) x86)))) + (r4.getD x88.toNat 0))) + (y72.getD x88.toNat 0)))), .slot 21 (intVP .u32 (IntKind.wrap .u32 ((bits .xor .u32 (bits .xor .u32 r111 r112) r113) + (bits .xor .u32 (bits .xor .u32 (bits .and .u32 x80 x81) (bits .and .u32 x80 x82)) (bits .and .u32 x81 x82))))), .res (lb p1 85 [intsCk .u32 8 a_0]), .res (lb p2 85 [intsCk .u32 8 (List.replicate 8 0)]), .res (lb p5 111 [intsCk .u32 64 r4]), .res (lb p6 111 [intsCk .u32 64 y72])] a w at h
                clear β
                show Code.wp Tryd.prog _ _ a w
                refine wp_seq ?_
                refine region_do (n := 231) [.slot 187 100000 100000 (fun _ _ => (intVP .u32 x85)),
      .slot 17 100000 100000 (fun _ _ => (intVP .u32 x85))] [0, 1] [⟨[9], [], [18], [], some 187⟩, ⟨[18], [], [19], [0], some 17⟩] [0, 1, 2, 3, 4, 5, 6, 7, 8, 19, 10, 11, 12, 13, 14, 15, 16, 17] mixed hn hG h (by kernel_rfl) ?_ ?_
                · exact ⟨⟨rfl, fun β => (GOk.plain (op_move (opt 0 rfl)) rfl)⟩, ⟨rfl, fun β => (GOk.plain (op_assign (opt 0 rfl)) rfl)⟩, trivial⟩
                clear h
                intro β a w h
                change SatL c [.slot 2 (lpVP p1 0), .slot 4 (lpVP p2 0), .slot 5 (lpVP p5 0), .slot 6 (lpVP p6 0), .slot 11 (intVP .u32 x80), .slot 12 (intVP .u32 x81), .slot 13 (intVP .u32 x82), .slot 14 (intVP .u32 x83), .slot 15 (intVP .u32 x84), .slot 17 (intVP .u32 x85), .slot 18 (intVP .u32 x86), .slot 19 (intVP .i64 x88), .slot 20 (intVP .u32 (IntKind.wrap .u32 ((IntKind.wrap .u32 ((IntKind.wrap .u32 ((IntKind.wrap .u32 (x87 + (bits .xor .u32 (bits .xor .u32 r107 r108) r109))) + (bits .xor .u32 (bits .and .u32 x84 x85) (bits .and .u32 (bits .xor .u32 4294967295 x84) x86)))) + (r4.getD x88.toNat 0))) + (y72.getD x88.toNat 0)))), .slot 21 (intVP .u32 (IntKind.wrap .u32 ((bits .xor .u32 (bits .xor .u32 r111 r112) r113) + (bits .xor .u32 (bits .xor .u32 (bits .and .u32 x80 x81) (bits .and .u32 x80 x82)) (bits .and .u32 x81 x82))))), .res (lb p1 85 [intsCk .u32 8 a_0]), .res (lb p2 85 [intsCk .u32 8 (List.replicate 8 0)]), .res (lb p5 111 [intsCk .u32 64 r4]), .res (lb p6 111 [intsCk .u32 64 y72])] a w at h
                clear β
                show Code.wp Tryd.prog _ _ a w
                refine wp_seq ?_
                refine region_do (n := 231) [.slot 188 100000 100000 (fun _ _ => (intVP .u32 x84)),
      .slot 16 100000 100000 (fun _ _ => (intVP .u32 x84))] [0, 1] [⟨[8], [], [18], [], some 188⟩, ⟨[18], [], [19], [0], some 16⟩] [0, 1, 2, 3, 4, 5, 6, 7, 19, 9, 10, 11, 12, 13, 14, 15, 16, 17] mixed hn hG h (by kernel_rfl) ?_ ?_
                · exact ⟨⟨rfl, fun β => (GOk.plain (op_move (opt 0 rfl)) rfl)⟩, ⟨rfl, fun β => (GOk.plain (op_assign (opt 0 rfl)) rfl)⟩, trivial⟩
                clear h
                intro β a w h
                change SatL c [.slot 2 (lpVP p1 0), .slot 4 (lpVP p2 0), .slot 5 (lpVP p5 0), .slot 6 (lpVP p6 0), .slot 11 (intVP .u32 x80), .slot 12 (intVP .u32 x81), .slot 13 (intVP .u32 x82), .slot 14 (intVP .u32 x83), .slot 16 (intVP .u32 x84), .slot 17 (intVP .u32 x85), .slot 18 (intVP .u32 x86), .slot 19 (intVP .i64 x88), .slot 20 (intVP .u32 (IntKind.wrap .u32 ((IntKind.wrap .u32 ((IntKind.wrap .u32 ((IntKind.wrap .u32 (x87 + (bits .xor .u32 (bits .xor .u32 r107 r108) r109))) + (bits .xor .u32 (bits .and .u32 x84 x85) (bits .and .u32 (bits .xor .u32 4294967295 x84) x86)))) + (r4.getD x88.toNat 0))) + (y72.getD x88.toNat 0)))), .slot 21 (intVP .u32 (IntKind.wrap .u32 ((bits .xor .u32 (bits .xor .u32 r111 r112) r113) + (bits .xor .u32 (bits .xor .u32 (bits .and .u32 x80 x81) (bits .and .u32 x80 x82)) (bits .and .u32 x81 x82))))), .res (lb p1 85 [intsCk .u32 8 a_0]), .res (lb p2 85 [intsCk .u32 8 (List.replicate 8 0)]), .res (lb p5 111 [intsCk .u32 64 r4]), .res (lb p6 111 [intsCk .u32 64 y72])] a w at h
                clear β
                show Code.wp Tryd.prog _ _ a w
                refine wp_seq ?_
                refine region_do (n := 231) [.slot 189 100000 100000 (fun _ _ => (intVP .u32 x83)),
      .slot 190 100000 100000 (fun _ _ => (intVP .u32 (IntKind.wrap .u32 ((IntKind.wrap .u32 ((IntKind.wrap .u32 ((IntKind.wrap .u32 (x87 + (bits .xor .u32 (bits .xor .u32 r107 r108) r109))) + (bits .xor .u32 (bits .and .u32 x84 x85) (bits .and .u32 (bits .xor .u32 4294967295 x84) x86)))) + (r4.getD x88.toNat 0))) + (y72.getD x88.toNat 0))))),
      .slot 191 100000 100000 (fun _ _ => (intVP .u32 (IntKind.wrap .u32 (x83 + (IntKind.wrap .u32 ((IntKind.wrap .u32 ((IntKind.wrap .u32 ((IntKind.wrap .u32 (x87 + (bits .xor .u32 (bits .xor .u32 r107 r108) r109))) + (bits .xor .u32 (bits .and .u32 x84 x85) (bits .and .u32 (bits .xor .u32 4294967295 x84) x86)))) + (r4.getD x88.toNat 0))) + (y72.getD x88.toNat 0))))))),
      .slot 15 100000 100000 (fun _ _ => (intVP .u32 (IntKind.wrap .u32 (x83 + (IntKind.wrap .u32 ((IntKind.wrap .u32 ((IntKind.wrap .u32 ((IntKind.wrap .u32 (x87 + (bits .xor .u32 (bits .xor .u32 r107 r108) r109))) + (bits .xor .u32 (bits .and .u32 x84 x85) (bits .and .u32 (bits .xor .u32 4294967295 x84) x86)))) + (r4.getD x88.toNat 0))) + (y72.getD x88.toNat 0)))))))] [0, 1, 2, 3] [⟨[7], [], [18], [], some 189⟩, ⟨[12], [], [19], [0], some 190⟩, ⟨[18, 19], [], [20], [0, 1], some 191⟩, ⟨[20], [], [21], [0, 1, 2], some 15⟩] [0, 1, 2, 3, 4, 5, 6, 21, 8, 9, 10, 11, 12, 13, 14, 15, 16, 17] mixed hn hG h (by kernel_rfl) ?_ ?_
                · exact ⟨⟨rfl, fun β => (GOk.plain (op_move (opt 0 rfl)) rfl)⟩, ⟨rfl, fun β => (GOk.plain (op_move (opt 0 rfl)) rfl)⟩, ⟨rfl, fun β => (GOk.plain (op_bin bin_add (opt 0 rfl) (opt 1 rfl)) rfl)⟩, ⟨rfl, fun β => (GOk.plain (op_assign (opt 0 rfl)) rfl)⟩, trivial⟩
                clear h
                intro β a w h
                change SatL c [.slot 2 (lpVP p1 0), .slot 4 (lpVP p2 0), .slot 5 (lpVP p5 0), .slot 6 (lpVP p6 0), .slot 11 (intVP .u32 x80), .slot 12 (intVP .u32 x81), .slot 13 (intVP .u32 x82), .slot 15 (intVP .u32 (IntKind.wrap .u32 (x83 + (IntKind.wrap .u32 ((IntKind.wrap .u32 ((IntKind.wrap .u32 ((IntKind.wrap .u32 (x87 + (bits .xor .u32 (bits .xor .u32 r107 r108) r109))) + (bits .xor .u32 (bits .and .u32 x84 x85) (bits .and .u32 (bits .xor .u32 4294967295 x84) x86)))) + (r4.getD x88.toNat 0))) + (y72.getD x88.toNat 0)))))), .slot 16 (intVP .u32 x84), .slot 17 (intVP .u32 x85), .slot 18 (intVP .u32 x86), .slot 19 (intVP .i64 x88), .slot 20 (intVP .u32 (IntKind.wrap .u32 ((IntKind.wrap .u32 ((IntKind.wrap .u32 ((IntKind.wrap .u32 (x87 + (bits .xor .u32 (bits .xor .u32 r107 r108) r109))) + (bits .xor .u32 (bits .and .u32 x84 x85) (bits .and .u32 (bits .xor .u32 4294967295 x84) x86)))) + (r4.getD x88.toNat 0))) + (y72.getD x88.toNat 0)))), .slot 21 (intVP .u32 (IntKind.wrap .u32 ((bits .xor .u32 (bits .xor .u32 r111 r112) r113) + (bits .xor .u32 (bits .xor .u32 (bits .and .u32 x80 x81) (bits .and .u32 x80 x82)) (bits .and .u32 x81 x82))))), .res (lb p1 85 [intsCk .u32 8 a_0]), .res (lb p2 85 [intsCk .u32 8 (List.replicate 8 0)]), .res (lb p5 111 [intsCk .u32 64 r4]), .res (lb p6 111 [intsCk .u32 64 y72])] a w at h
                clear β
                show Code.wp Tryd.prog _ _ a w
                refine wp_seq ?_
                refine region_do (n := 231) [.slot 192 100000 100000 (fun _ _ => (intVP .u32 x82)),
      .slot 14 100000 100000 (fun _ _ => (intVP .u32 x82))] [0, 1] [⟨[6], [], [18], [], some 192⟩, ⟨[18], [], [19], [0], some 14⟩] [0, 1, 2, 3, 4, 5, 19, 7, 8, 9, 10, 11, 12, 13, 14, 15, 16, 17] mixed hn hG h (by kernel_rfl) ?_ ?_
                · exact ⟨⟨rfl, fun β => (GOk.plain (op_move (opt 0 rfl)) rfl)⟩, ⟨rfl, fun β => (GOk.plain (op_assign (opt 0 rfl)) rfl)⟩, trivial⟩
                clear h
                intro β a w h
                change SatL c [.slot 2 (lpVP p1 0), .slot 4 (lpVP p2 0), .slot 5 (lpVP p5 0), .slot 6 (lpVP p6 0), .slot 11 (intVP .u32 x80), .slot 12 (intVP .u32 x81), .slot 14 (intVP .u32 x82), .slot 15 (intVP .u32 (IntKind.wrap .u32 (x83 + (IntKind.wrap .u32 ((IntKind.wrap .u32 ((IntKind.wrap .u32 ((IntKind.wrap .u32 (x87 + (bits .xor .u32 (bits .xor .u32 r107 r108) r109))) + (bits .xor .u32 (bits .and .u32 x84 x85) (bits .and .u32 (bits .xor .u32 4294967295 x84) x86)))) + (r4.getD x88.toNat 0))) + (y72.getD x88.toNat 0)))))), .slot 16 (intVP .u32 x84), .slot 17 (intVP .u32 x85), .slot 18 (intVP .u32 x86), .slot 19 (intVP .i64 x88), .slot 20 (intVP .u32 (IntKind.wrap .u32 ((IntKind.wrap .u32 ((IntKind.wrap .u32 ((IntKind.wrap .u32 (x87 + (bits .xor .u32 (bits .xor .u32 r107 r108) r109))) + (bits .xor .u32 (bits .and .u32 x84 x85) (bits .and .u32 (bits .xor .u32 4294967295 x84) x86)))) + (r4.getD x88.toNat 0))) + (y72.getD x88.toNat 0)))), .slot 21 (intVP .u32 (IntKind.wrap .u32 ((bits .xor .u32 (bits .xor .u32 r111 r112) r113) + (bits .xor .u32 (bits .xor .u32 (bits .and .u32 x80 x81) (bits .and .u32 x80 x82)) (bits .and .u32 x81 x82))))), .res (lb p1 85 [intsCk .u32 8 a_0]), .res (lb p2 85 [intsCk .u32 8 (List.replicate 8 0)]), .res (lb p5 111 [intsCk .u32 64 r4]), .res (lb p6 111 [intsCk .u32 64 y72])] a w at h
                clear β
                show Code.wp Tryd.prog _ _ a w
                refine wp_seq ?_
                refine region_do (n := 231) [.slot 193 100000 100000 (fun _ _ => (intVP .u32 x81)),
      .slot 13 100000 100000 (fun _ _ => (intVP .u32 x81))] [0, 1] [⟨[5], [], [18], [], some 193⟩, ⟨[18], [], [19], [0], some 13⟩] [0, 1, 2, 3, 4, 19, 6, 7, 8, 9, 10, 11, 12, 13, 14, 15, 16, 17] mixed hn hG h (by kernel_rfl) ?_ ?_
                · exact ⟨⟨rfl, fun β => (GOk.plain (op_move (opt 0 rfl)) rfl)⟩, ⟨rfl, fun β => (GOk.plain (op_assign (opt 0 rfl)) rfl)⟩, trivial⟩
                clear h
                intro β a w h
                change SatL c [.slot 2 (lpVP p1 0), .slot 4 (lpVP p2 0), .slot 5 (lpVP p5 0), .slot 6 (lpVP p6 0), .slot 11 (intVP .u32 x80), .slot 13 (intVP .u32 x81), .slot 14 (intVP .u32 x82), .slot 15 (intVP .u32 (IntKind.wrap .u32 (x83 + (IntKind.wrap .u32 ((IntKind.wrap .u32 ((IntKind.wrap .u32 ((IntKind.wrap .u32 (x87 + (bits .xor .u32 (bits .xor .u32 r107 r108) r109))) + (bits .xor .u32 (bits .and .u32 x84 x85) (bits .and .u32 (bits .xor .u32 4294967295 x84) x86)))) + (r4.getD x88.toNat 0))) + (y72.getD x88.toNat 0)))))), .slot 16 (intVP .u32 x84), .slot 17 (intVP .u32 x85), .slot 18 (intVP .u32 x86), .slot 19 (intVP .i64 x88), .slot 20 (intVP .u32 (IntKind.wrap .u32 ((IntKind.wrap .u32 ((IntKind.wrap .u32 ((IntKind.wrap .u32 (x87 + (bits .xor .u32 (bits .xor .u32 r107 r108) r109))) + (bits .xor .u32 (bits .and .u32 x84 x85) (bits .and .u32 (bits .xor .u32 4294967295 x84) x86)))) + (r4.getD x88.toNat 0))) + (y72.getD x88.toNat 0)))), .slot 21 (intVP .u32 (IntKind.wrap .u32 ((bits .xor .u32 (bits .xor .u32 r111 r112) r113) + (bits .xor .u32 (bits .xor .u32 (bits .and .u32 x80 x81) (bits .and .u32 x80 x82)) (bits .and .u32 x81 x82))))), .res (lb p1 85 [intsCk .u32 8 a_0]), .res (lb p2 85 [intsCk .u32 8 (List.replicate 8 0)]), .res (lb p5 111 [intsCk .u32 64 r4]), .res (lb p6 111 [intsCk .u32 64 y72])] a w at h
                clear β
                show Code.wp Tryd.prog _ _ a w
                refine wp_seq ?_
                refine region_do (n := 231) [.slot 194 100000 100000 (fun _ _ => (intVP .u32 x80)),
      .slot 12 100000 100000 (fun _ _ => (intVP .u32 x80))] [0, 1] [⟨[4], [], [18], [], some 194⟩, ⟨[18], [], [19], [0], some 12⟩] [0, 1, 2, 3, 19, 5, 6, 7, 8, 9, 10, 11, 12, 13, 14, 15, 16, 17] mixed hn hG h (by kernel_rfl) ?_ ?_
                · exact ⟨⟨rfl, fun β => (GOk.plain (op_move (opt 0 rfl)) rfl)⟩, ⟨rfl, fun β => (GOk.plain (op_assign (opt 0 rfl)) rfl)⟩, trivial⟩
                clear h
                intro β a w h
                change SatL c [.slot 2 (lpVP p1 0), .slot 4 (lpVP p2 0), .slot 5 (lpVP p5 0), .slot 6 (lpVP p6 0), .slot 12 (intVP .u32 x80), .slot 13 (intVP .u32 x81), .slot 14 (intVP .u32 x82), .slot 15 (intVP .u32 (IntKind.wrap .u32 (x83 + (IntKind.wrap .u32 ((IntKind.wrap .u32 ((IntKind.wrap .u32 ((IntKind.wrap .u32 (x87 + (bits .xor .u32 (bits .xor .u32 r107 r108) r109))) + (bits .xor .u32 (bits .and .u32 x84 x85) (bits .and .u32 (bits .xor .u32 4294967295 x84) x86)))) + (r4.getD x88.toNat 0))) + (y72.getD x88.toNat 0)))))), .slot 16 (intVP .u32 x84), .slot 17 (intVP .u32 x85), .slot 18 (intVP .u32 x86), .slot 19 (intVP .i64 x88), .slot 20 (intVP .u32 (IntKind.wrap .u32 ((IntKind.wrap .u32 ((IntKind.wrap .u32 ((IntKind.wrap .u32 (x87 + (bits .xor .u32 (bits .xor .u32 r107 r108) r109))) + (bits .xor .u32 (bits .and .u32 x84 x85) (bits .and .u32 (bits .xor .u32 4294967295 x84) x86)))) + (r4.getD x88.toNat 0))) + (y72.getD x88.toNat 0)))), .slot 21 (intVP .u32 (IntKind.wrap .u32 ((bits .xor .u32 (bits .xor .u32 r111 r112) r113) + (bits .xor .u32 (bits .xor .u32 (bits .and .u32 x80 x81) (bits .and .u32 x80 x82)) (bits .and .u32 x81 x82))))), .res (lb p1 85 [intsCk .u32 8 a_0]), .res (lb p2 85 [intsCk .u32 8 (List.replicate 8 0)]), .res (lb p5 111 [intsCk .u32 64 r4]), .res (lb p6 111 [intsCk .u32 64 y72])] a w at h
                clear β
                show Code.wp Tryd.prog _ _ a w
                refine region_do (n := 231) [.slot 195 100000 100000 (fun _ _ => (intVP .u32 (IntKind.wrap .u32 ((IntKind.wrap .u32 ((IntKind.wrap .u32 ((IntKind.wrap .u32 (x87 + (bits .xor .u32 (bits .xor .u32 r107 r108) r109))) + (bits .xor .u32 (bits .and .u32 x84 x85) (bits .and .u32 (bits .xor .u32 4294967295 x84) x86)))) + (r4.getD x88.toNat 0))) + (y72.getD x88.toNat 0))))),
      .slot 196 100000 100000 (fun _ _ => (intVP .u32 (IntKind.wrap .u32 ((bits .xor .u32 (bits .xor .u32 r111 r112) r113) + (bits .xor .u32 (bits .xor .u32 (bits .and .u32 x80 x81) (bits .and .u32 x80 x82)) (bits .and .u32 x81 x82)))))),
      .slot 197 100000 100000 (fun _ _ => (intVP .u32 (IntKind.wrap .u32 ((IntKind.wrap .u32 ((IntKind.wrap .u32 ((IntKind.wrap .u32 ((IntKind.wrap .u32 (x87 + (bits .xor .u32 (bits .xor .u32 r107 r108) r109))) + (bits .xor .u32 (bits .and .u32 x84 x85) (bits .and .u32 (bits .xor .u32 4294967295 x84) x86)))) + (r4.getD x88.toNat 0))) + (y72.getD x88.toNat 0))) + (IntKind.wrap .u32 ((bits .xor .u32 (bits .xor .u32 r111 r112) r113) + (bits .xor .u32 (bits .xor .u32 (bits .and .u32 x80 x81) (bits .and .u32 x80 x82)) (bits .and .u32 x81 x82)))))))),
      .slot 11 100000 100000 (fun _ _ => (intVP .u32 (IntKind.wrap .u32 ((IntKind.wrap .u32 ((IntKind.wrap .u32 ((IntKind.wrap .u32 ((IntKind.wrap .u32 (x87 + (bits .xor .u32 (bits .xor .u32 r107 r108) r109))) + (bits .xor .u32 (bits .and .u32 x84 x85) (bits .and .u32 (bits .xor .u32 4294967295 x84) x86)))) + (r4.getD x88.toNat 0))) + (y72.getD x88.toNat 0))) + (IntKind.wrap .u32 ((bits .xor .u32 (bits .xor .u32 r111 r112) r113) + (bits .xor .u32 (bits .xor .u32 (bits .and .u32 x80 x81) (bits .and .u32 x80 x82)) (bits .and .u32 x81 x82))))))))] [0, 1, 2, 3] [⟨[12], [], [18], [], some 195⟩, ⟨[13], [], [19], [0], some 196⟩, ⟨[18, 19], [], [20], [0, 1], some 197⟩, ⟨[20], [], [21], [0, 1, 2], some 11⟩] [0, 1, 2, 3, 21, 4, 5, 6, 7, 8, 9, 10, 11, 14, 15, 16, 17] mixed hn hG h (by kernel_rfl) ?_ ?_
                · exact ⟨⟨rfl, fun β => (GOk.plain (op_move (opt 0 rfl)) rfl)⟩, ⟨rfl, fun β => (GOk.plain (op_move (opt 0 rfl)) rfl)⟩, ⟨rfl, fun β => (GOk.plain (op_bin bin_add (opt 0 rfl) (opt 1 rfl)) rfl)⟩, ⟨rfl, fun β => (GOk.plain (op_assign (opt 0 rfl)) rfl)⟩, trivial⟩
                clear h
                intro β a w h
                change SatL c [.slot 2 (lpVP p1 0), .slot 4 (lpVP p2 0), .slot 5 (lpVP p5 0), .slot 6 (lpVP p6 0), .slot 11 (intVP .u32 (IntKind.wrap .u32 ((IntKind.wrap .u32 ((IntKind.wrap .u32 ((IntKind.wrap .u32 ((IntKind.wrap .u32 (x87 + (bits .xor .u32 (bits .xor .u32 r107 r108) r109))) + (bits .xor .u32 (bits .and .u32 x84 x85) (bits .and .u32 (bits .xor .u32 4294967295 x84) x86)))) + (r4.getD x88.toNat 0))) + (y72.getD x88.toNat 0))) + (IntKind.wrap .u32 ((bits .xor .u32 (bits .xor .u32 r111 r112) r113) + (bits .xor .u32 (bits .xor .u32 (bits .and .u32 x80 x81) (bits .and .u32 x80 x82)) (bits .and .u32 x81 x82))))))), .slot 12 (intVP .u32 x80), .slot 13 (intVP .u32 x81), .slot 14 (intVP .u32 x82), .slot 15 (intVP .u32 (IntKind.wrap .u32 (x83 + (IntKind.wrap .u32 ((IntKind.wrap .u32 ((IntKind.wrap .u32 ((IntKind.wrap .u32 (x87 + (bits .xor .u32 (bits .xor .u32 r107 r108) r109))) + (bits .xor .u32 (bits .and .u32 x84 x85) (bits .and .u32 (bits .xor .u32 4294967295 x84) x86)))) + (r4.getD x88.toNat 0))) + (y72.getD x88.toNat 0)))))), .slot 16 (intVP .u32 x84), .slot 17 (intVP .u32 x85), .slot 18 (intVP .u32 x86), .slot 19 (intVP .i64 x88), .res (lb p1 85 [intsCk .u32 8 a_0]), .res (lb p2 85 [intsCk .u32 8 (List.replicate 8 0)]), .res (lb p5 111 [intsCk .u32 64 r4]), .res (lb p6 111 [intsCk .u32 64 y72])] a w at h
                clear β
                show Code.wp Tryd.prog _ _ a w
                refine region_do (n := 231) [.slot 137 100000 100000 (fun _ _ => (intVP .i64 x88)),
      .slot 138 100000 100000 (fun _ _ => (intVP .i64 (IntKind.wrap .i64 (x88 + 1)))),
      .slot 19 100000 100000 (fun _ _ => (intVP .i64 (IntKind.wrap .i64 (x88 + 1))))] [0, 1, 2] [⟨[12], [], [17], [], some 137⟩, ⟨[17], [], [18], [0], some 138⟩, ⟨[18], [12], [19], [0, 1], some 19⟩] [0, 1, 2, 3, 4, 5, 6, 7, 8, 9, 10, 11, 19, 13, 14, 15, 16] mixed hn hG h (by kernel_rfl) ?_ ?_
                · exact ⟨⟨rfl, fun β => (GOk.plain (op_move (opt 0 rfl)) rfl)⟩, ⟨rfl, fun β => (GOk.plain (op_bin bin_add (opt 0 rfl) (opc (ic (by decide)))) rfl)⟩, ⟨rfl, fun β => (GOk.drop _ (GOk.plain (op_assign (opt 0 rfl)) rfl))⟩, trivial⟩
                clear h
                intro β a w h
                change SatL c [.slot 2 (lpVP p1 0), .slot 4 (lpVP p2 0), .slot 5 (lpVP p5 0), .slot 6 (lpVP p6 0), .slot 11 (intVP .u32 (IntKind.wrap .u32 ((IntKind.wrap .u32 ((IntKind.wrap .u32 ((IntKind.wrap .u32 ((IntKind.wrap .u32 (x87 + (bits .xor .u32 (bits .xor .u32 r107 r108) r109))) + (bits .xor .u32 (bits .and .u32 x84 x85) (bits .and .u32 (bits .xor .u32 4294967295 x84) x86)))) + (r4.getD x88.toNat 0))) + (y72.getD x88.toNat 0))) + (IntKind.wrap .u32 ((bits .xor .u32 (bits .xor .u32 r111 r112) r113) + (bits .xor .u32 (bits .xor .u32 (bits .and .u32 x80 x81) (bits .and .u32 x80 x82)) (bits .and .u32 x81 x82))))))), .slot 12 (intVP .u32 x80), .slot 13 (intVP .u32 x81), .slot 14 (intVP .u32 x82), .slot 15 (intVP .u32 (IntKind.wrap .u32 (x83 + (IntKind.wrap .u32 ((IntKind.wrap .u32 ((IntKind.wrap .u32 ((IntKind.wrap .u32 (x87 + (bits .xor .u32 (bits .xor .u32 r107 r108) r109))) + (bits .xor .u32 (bits .and .u32 x84 x85) (bits .and .u32 (bits .xor .u32 4294967295 x84) x86)))) + (r4.getD x88.toNat 0))) + (y72.getD x88.toNat 0)))))), .slot 16 (intVP .u32 x84), .slot 17 (intVP .u32 x85), .slot 18 (intVP .u32 x86), .slot 19 (intVP .i64 (IntKind.wrap .i64 (x88 + 1))), .res (lb p1 85 [intsCk .u32 8 a_0]), .res (lb p2 85 [intsCk .u32 8 (List.replicate 8 0)]), .res (lb p5 111 [intsCk .u32 64 r4]), .res (lb p6 111 [intsCk .u32 64 y72])] a w at h
                clear β
                obtain rfl := Option.some.inj hF
                exact ⟨rfl, h.sub [0, 1, 2, 3, 4, 5, 6, 7, 8, 9, 10, 11, 12, 13, 14, 15, 16] (by rfl)⟩
              · replace hF := ff_of hb106 hF
                replace h := h.sub [0, 1, 2, 3, 4, 5, 6, 7, 8, 9, 10, 11, 12, 14, 15, 16, 17] (by rfl)
                change SatL c [.slot 2 (lpVP p1 0), .slot 4 (lpVP p2 0), .slot 5 (lpVP p5 0), .slot 6 (lpVP p6 0), .slot 11 (intVP .u32 x80), .slot 12 (intVP .u32 x81), .slot 13 (intVP .u32 x82), .slot 14 (intVP .u32 x83), .slot 15 (intVP .u32 x84), .slot 16 (intVP .u32 x85), .slot 17 (intVP .u32 x86), .slot 18 (intVP .u32 x87), .slot 19 (intVP .i64 x88), .res (lb p1 85 [intsCk .u32 8 a_0]), .res (lb p2 85 [intsCk .u32 8 (List.replicate 8 0)]), .res (lb p5 111 [intsCk .u32 64 r4]), .res (lb p6 111 [intsCk .u32 64 y72])] a w at h
                refine wp_exit ?_
                obtain rfl := Option.some.inj hF
                exact ⟨exit_ne _, rfl, h.sub [0, 1, 4, 5, 6, 7, 8, 9, 10, 11, 13, 14] (by rfl)⟩
            · clear hl115
              intro e a w hq
              cases cr114 with
              | ret r116 =>
                obtain ⟨rfl, hq⟩ := hq
                obtain rfl := Option.some.inj hF
                exact ⟨.inl rfl, hq⟩
              | next s117 =>
                obtain ⟨y118, y119, y120, y121, y122, y123, y124, y125, y126⟩ := s117
                obtain ⟨rfl, h⟩ := hq
                change SatL c [.slot 2 (lpVP p1 0), .slot 4 (lpVP p2 0), .slot 11 (intVP .u32 y118), .slot 12 (intVP .u32 y119), .slot 13 (intVP .u32 y120), .slot 14 (intVP .u32 y121), .slot 15 (intVP .u32 y122), .slot 16 (intVP .u32 y123), .slot 17 (intVP .u32 y124), .slot 18 (intVP .u32 y125), .res (lb p1 85 [intsCk .u32 8 a_0]), .res (lb p2 85 [intsCk .u32 8 (List.replicate 8 0)])] a w at h
                refine inBlock_at ?_
                show Code.wp Tryd.prog _ _ a w
                refine wp_seq ?_
                refine region_do (n := 231) [.slot 198 100000 100000 (fun _ _ => (lpVP p1 (0 + (0 : Int).toNat * 1))),
      .slot 199 100000 100000 (fun _ _ => (intVP .u32 (a_0.getD (0 : Int).toNat 0))),
      .slot 200 100000 100000 (fun _ _ => (intVP .u32 y118)),
      .slot 201 100000 100000 (fun _ _ => (intVP .u32 (IntKind.wrap .u32 ((a_0.getD (0 : Int).toNat 0) + y118)))),
      .slot 202 100000 100000 (fun _ _ => (lpVP p1 (0 + (1 : Int).toNat * 1))),
      .slot 203 100000 100000 (fun _ _ => (intVP .u32 (a_0.getD (1 : Int).toNat 0))),
      .slot 204 100000 100000 (fun _ _ => (intVP .u32 y119)),
      .slot 205 100000 100000 (fun _ _ => (intVP .u32 (IntKind.wrap .u32 ((a_0.getD (1 : Int).toNat 0) + y119)))),
      .slot 206 100000 100000 (fun _ _ => (lpVP p1 (0 + (2 : Int).toNat * 1))),
      .slot 207 100000 100000 (fun _ _ => (intVP .u32 (a_0.getD (2 : Int).toNat 0))),
      .slot 208 100000 100000 (fun _ _ => (intVP .u32 y120)),
      .slot 209 100000 100000 (fun _ _ => (intVP .u32 (IntKind.wrap .u32 ((a_0.getD (2 : Int).toNat 0) + y120)))),
      .slot 210 100000 100000 (fun _ _ => (lpVP p1 (0 + (3 : Int).toNat * 1))),
      .slot 211 100000 100000 (fun _ _ => (intVP .u32 (a_0.getD (3 : Int).toNat 0))),
      .slot 212 100000 100000 (fun _ _ => (intVP .u32 y121)),
      .slot 213 100000 100000 (fun _ _ => (intVP .u32 (IntKind.wrap .u32 ((a_0.getD (3 : Int).toNat 0) + y121)))),
      .slot 214 100000 100000 (fun _ _ => (lpVP p1 (0 + (4 : Int).toNat * 1))),
      .slot 215 100000 100000 (fun _ _ => (intVP .u32 (a_0.getD (4 : Int).toNat 0))),
      .slot 216 100000 100000 (fun _ _ => (intVP .u32 y122)),
      .slot 217 100000 100000 (fun _ _ => (intVP .u32 (IntKind.wrap .u32 ((a_0.getD (4 : Int).toNat 0) + y122)))),
      .slot 218 100000 100000 (fun _ _ => (lpVP p1 (0 + (5 : Int).toNat * 1))),
      .slot 219 100000 100000 (fun _ _ => (intVP .u32 (a_0.getD (5 : Int).toNat 0))),
      .slot 220 100000 100000 (fun _ _ => (intVP .u32 y123)),
      .slot 221 100000 100000 (fun _ _ => (intVP .u32 (IntKind.wrap .u32 ((a_0.getD (5 : Int).toNat 0) + y123)))),
      .slot 222 100000 100000 (fun _ _ => (lpVP p1 (0 + (6 : Int).toNat * 1))),
      .slot 223 100000 100000 (fun _ _ => (intVP .u32 (a_0.getD (6 : Int).toNat 0))),
      .slot 224 100000 100000 (fun _ _ => (intVP .u32 y124)),
      .slot 225 100000 100000 (fun _ _ => (intVP .u32 (IntKind.wrap .u32 ((a_0.getD (6 : Int).toNat 0) + y124)))),
      .slot 226 100000 100000 (fun _ _ => (lpVP p1 (0 + (7 : Int).toNat * 1))),
      .slot 227 100000 100000 (fun _ _ => (intVP .u32 (a_0.getD (7 : Int).toNat 0))),
      .slot 228 100000 100000 (fun _ _ => (intVP .u32 y125)),
      .slot 229 100000 100000 (fun _ _ => (intVP .u32 (IntKind.wrap .u32 ((a_0.getD (7 : Int).toNat 0) + y125)))),
      .slot 230 100000 100000 (fun _ _ => (aggVP [intsCk .u32 8 ([IntKind.wrap .u32 ((a_0.getD (0 : Int).toNat 0) + y118), IntKind.wrap .u32 ((a_0.getD (1 : Int).toNat 0) + y119), IntKind.wrap .u32 ((a_0.getD (2 : Int).toNat 0) + y120), IntKind.wrap .u32 ((a_0.getD (3 : Int).toNat 0) + y121), IntKind.wrap .u32 ((a_0.getD (4 : Int).toNat 0) + y122), IntKind.wrap .u32 ((a_0.getD (5 : Int).toNat 0) + y123), IntKind.wrap .u32 ((a_0.getD (6 : Int).toNat 0) + y124), IntKind.wrap .u32 ((a_0.getD (7 : Int).toNat 0) + y125)] ++ List.replicate (8 - 8) 0)])),
      .res 100000 100000 (fun _ _ => (lb p2 85 [intsCk .u32 8 ([IntKind.wrap .u32 ((a_0.getD (0 : Int).toNat 0) + y118), IntKind.wrap .u32 ((a_0.getD (1 : Int).toNat 0) + y119), IntKind.wrap .u32 ((a_0.getD (2 : Int).toNat 0) + y120), IntKind.wrap .u32 ((a_0.getD (3 : Int).toNat 0) + y121), IntKind.wrap .u32 ((a_0.getD (4 : Int).toNat 0) + y122), IntKind.wrap .u32 ((a_0.getD (5 : Int).toNat 0) + y123), IntKind.wrap .u32 ((a_0.getD (6 : Int).toNat 0) + y124), IntKind.wrap .u32 ((a_0.getD (7 : Int).toNat 0) + y125)] ++ List.replicate (8 - 8) 0)]))] [0, 1, 2, 3, 4, 5, 6, 7, 8, 9, 10, 11, 12, 13, 14, 15, 16, 17, 18, 19, 20, 21, 22, 23, 24, 25, 26, 27, 28, 29, 30, 31, 32, 33] [⟨[0], [], [12], [], some 198⟩, ⟨[12, 10], [], [13], [0], some 199⟩, ⟨[2], [], [14], [0, 1], some 200⟩, ⟨[13, 14], [], [15], [0, 1, 2], some 201⟩, ⟨[0], [], [16], [0, 1, 2, 3], some 202⟩, ⟨[16, 10], [], [17], [0, 1, 2, 3, 4], some 203⟩, ⟨[3], [], [18], [0, 1, 2, 3, 4, 5], some 204⟩, ⟨[17, 18], [], [19], [0, 1, 2, 3, 4, 5, 6], some 205⟩, ⟨[0], [], [20], [0, 1, 2, 3, 4, 5, 6, 7], some 206⟩, ⟨[20, 10], [], [21], [0, 1, 2, 3, 4, 5, 6, 7, 8], some 207⟩, ⟨[4], [], [22], [0, 1, 2, 3, 4, 5, 6, 7, 8, 9], some 208⟩, ⟨[21, 22], [], [23], [0, 1, 2, 3, 4, 5, 6, 7, 8, 9, 10], some 209⟩, ⟨[0], [], [24], [0, 1, 2, 3, 4, 5, 6, 7, 8, 9, 10, 11], some 210⟩, ⟨[24, 10], [], [25], [0, 1, 2, 3, 4, 5, 6, 7, 8, 9, 10, 11, 12], some 211⟩, ⟨[5], [], [26], [0, 1, 2, 3, 4, 5, 6, 7, 8, 9, 10, 11, 12, 13], some 212⟩, ⟨[25, 26], [], [27], [0, 1, 2, 3, 4, 5, 6, 7, 8, 9, 10, 11, 12, 13, 14], some 213⟩, ⟨[0], [], [28], [0, 1, 2, 3, 4, 5, 6, 7, 8, 9, 10, 11, 12, 13, 14, 15], some 214⟩, ⟨[28, 10], [], [29], [0, 1, 2, 3, 4, 5, 6, 7, 8, 9, 10, 11, 12, 13, 14, 15, 16], some 215⟩, ⟨[6], [], [30], [0, 1, 2, 3, 4, 5, 6, 7, 8, 9, 10, 11, 12, 13, 14, 15, 16, 17], some 216⟩, ⟨[29, 30], [], [31], [0, 1, 2, 3, 4, 5, 6, 7, 8, 9, 10, 11, 12, 13, 14, 15, 16, 17, 18], some 217⟩, ⟨[0], [], [32], [0, 1, 2, 3, 4, 5, 6, 7, 8, 9, 10, 11, 12, 13, 14, 15, 16, 17, 18, 19], some 218⟩, ⟨[32, 10], [], [33], [0, 1, 2, 3, 4, 5, 6, 7, 8, 9, 10, 11, 12, 13, 14, 15, 16, 17, 18, 19, 20], some 219⟩, ⟨[7], [], [34], [0, 1, 2, 3, 4, 5, 6, 7, 8, 9, 10, 11, 12, 13, 14, 15, 16, 17, 18, 19, 20, 21], some 220⟩, ⟨[33, 34], [], [35], [0, 1, 2, 3, 4, 5, 6, 7, 8, 9, 10, 11, 12, 13, 14, 15, 16, 17, 18, 19, 20, 21, 22], some 221⟩, ⟨[0], [], [36], [0, 1, 2, 3, 4, 5, 6, 7, 8, 9, 10, 11, 12, 13, 14, 15, 16, 17, 18, 19, 20, 21, 22, 23], some 222⟩, ⟨[36, 10], [], [37], [0, 1, 2, 3, 4, 5, 6, 7, 8, 9, 10, 11, 12, 13, 14, 15, 16, 17, 18, 19, 20, 21, 22, 23, 24], some 223⟩, ⟨[8], [], [38], [0, 1, 2, 3, 4, 5, 6, 7, 8, 9, 10, 11, 12, 13, 14, 15, 16, 17, 18, 19, 20, 21, 22, 23, 24, 25], some 224⟩, ⟨[37, 38], [], [39], [0, 1, 2, 3, 4, 5, 6, 7, 8, 9, 10, 11, 12, 13, 14, 15, 16, 17, 18, 19, 20, 21, 22, 23, 24, 25, 26], some 225⟩, ⟨[0], [], [40], [0, 1, 2, 3, 4, 5, 6, 7, 8, 9, 10, 11, 12, 13, 14, 15, 16, 17, 18, 19, 20, 21, 22, 23, 24, 25, 26, 27], some 226⟩, ⟨[40, 10], [], [41], [0, 1, 2, 3, 4, 5, 6, 7, 8, 9, 10, 11, 12, 13, 14, 15, 16, 17, 18, 19, 20, 21, 22, 23, 24, 25, 26, 27, 28], some 227⟩, ⟨[9], [], [42], [0, 1, 2, 3, 4, 5, 6, 7, 8, 9, 10, 11, 12, 13, 14, 15, 16, 17, 18, 19, 20, 21, 22, 23, 24, 25, 26, 27, 28, 29], some 228⟩, ⟨[41, 42], [], [43], [0, 1, 2, 3, 4, 5, 6, 7, 8, 9, 10, 11, 12, 13, 14, 15, 16, 17, 18, 19, 20, 21, 22, 23, 24, 25, 26, 27, 28, 29, 30], some 229⟩, ⟨[15, 19, 23, 27, 31, 35, 39, 43], [], [44], [0, 1, 2, 3, 4, 5, 6, 7, 8, 9, 10, 11, 12, 13, 14, 15, 16, 17, 18, 19, 20, 21, 22, 23, 24, 25, 26, 27, 28, 29, 30, 31], some 230⟩, ⟨[1, 44], [11], [45], [0, 1, 2, 3, 4, 5, 6, 7, 8, 9, 10, 11, 12, 13, 14, 15, 16, 17, 18, 19, 20, 21, 22, 23, 24, 25, 26, 27, 28, 29, 30, 31, 32], none⟩] [1, 45] mixed hn hG h (by kernel_rfl) ?_ ?_
                · exact ⟨⟨rfl, fun β => (GOk.plain (op_indexAddr_lb Tryd.underlying85 Tryd.sizeOf81 (opt 0 rfl) (opc (ic (by decide))) (by decide)) rfl)⟩, ⟨rfl, fun β => (GOk.plain (op_load_lbI (i := 0) [] [] 1 Tryd.isAgg81 (opt 0 rfl) rfl rfl (by decide)) rfl)⟩, ⟨rfl, fun β => (GOk.plain (op_move (opt 0 rfl)) rfl)⟩, ⟨rfl, fun β => (GOk.plain (op_bin bin_add (opt 0 rfl) (opt 1 rfl)) rfl)⟩, ⟨rfl, fun β => (GOk.plain (op_indexAddr_lb Tryd.underlying85 Tryd.sizeOf81 (opt 0 rfl) (opc (ic (by decide))) (by decide)) rfl)⟩, ⟨rfl, fun β => (GOk.plain (op_load_lbI (i := 1) [] [] 1 Tryd.isAgg81 (opt 0 rfl) rfl rfl (by decide)) rfl)⟩, ⟨rfl, fun β => (GOk.plain (op_move (opt 0 rfl)) rfl)⟩, ⟨rfl, fun β => (GOk.plain (op_bin bin_add (opt 0 rfl) (opt 1 rfl)) rfl)⟩, ⟨rfl, fun β => (GOk.plain (op_indexAddr_lb Tryd.underlying85 Tryd.sizeOf81 (opt 0 rfl) (opc (ic (by decide))) (by decide)) rfl)⟩, ⟨rfl, fun β => (GOk.plain (op_load_lbI (i := 2) [] [] 1 Tryd.isAgg81 (opt 0 rfl) rfl rfl (by decide)) rfl)⟩, ⟨rfl, fun β => (GOk.plain (op_move (opt 0 rfl)) rfl)⟩, ⟨rfl, fun β => (GOk.plain (op_bin bin_add (opt 0 rfl) (opt 1 rfl)) rfl)⟩, ⟨rfl, fun β => (GOk.plain (op_indexAddr_lb Tryd.underlying85 Tryd.sizeOf81 (opt 0 rfl) (opc (ic (by decide))) (by decide)) rfl)⟩, ⟨rfl, fun β => (GOk.plain (op_load_lbI (i := 3) [] [] 1 Tryd.isAgg81 (opt 0 rfl) rfl rfl (by decide)) rfl)⟩, ⟨rfl, fun β => (GOk.plain (op_move (opt 0 rfl)) rfl)⟩, ⟨rfl, fun β => (GOk.plain (op_bin bin_add (opt 0 rfl) (opt 1 rfl)) rfl)⟩, ⟨rfl, fun β => (GOk.plain (op_indexAddr_lb Tryd.underlying85 Tryd.sizeOf81 (opt 0 rfl) (opc (ic (by decide))) (by decide)) rfl)⟩, ⟨rfl, fun β => (GOk.plain (op_load_lbI (i := 4) [] [] 1 Tryd.isAgg81 (opt 0 rfl) rfl rfl (by decide)) rfl)⟩, ⟨rfl, fun β => (GOk.plain (op_move (opt 0 rfl)) rfl)⟩, ⟨rfl, fun β => (GOk.plain (op_bin bin_add (opt 0 rfl) (opt 1 rfl)) rfl)⟩, ⟨rfl, fun β => (GOk.plain (op_indexAddr_lb Tryd.underlying85 Tryd.sizeOf81 (opt 0 rfl) (opc (ic (by decide))) (by decide)) rfl)⟩, ⟨rfl, fun β => (GOk.plain (op_load_lbI (i := 5) [] [] 1 Tryd.isAgg81 (opt 0 rfl) rfl rfl (by decide)) rfl)⟩, ⟨rfl, fun β => (GOk.plain (op_move (opt 0 rfl)) rfl)⟩, ⟨rfl, fun β => (GOk.plain (op_bin bin_add (opt 0 rfl) (opt 1 rfl)) rfl)⟩, ⟨rfl, fun β => (GOk.plain (op_indexAddr_lb Tryd.underlying85 Tryd.sizeOf81 (opt 0 rfl) (opc (ic (by decide))) (by decide)) rfl)⟩, ⟨rfl, fun β => (GOk.plain (op_load_lbI (i := 6) [] [] 1 Tryd.isAgg81 (opt 0 rfl) rfl rfl (by decide)) rfl)⟩, ⟨rfl, fun β => (GOk.plain (op_move (opt 0 rfl)) rfl)⟩, ⟨rfl, fun β => (GOk.plain (op_bin bin_add (opt 0 rfl) (opt 1 rfl)) rfl)⟩, ⟨rfl, fun β => (GOk.plain (op_indexAddr_lb Tryd.underlying85 Tryd.sizeOf81 (opt 0 rfl) (opc (ic (by decide))) (by decide)) rfl)⟩, ⟨rfl, fun β => (GOk.plain (op_load_lbI (i := 7) [] [] 1 Tryd.isAgg81 (opt 0 rfl) rfl rfl (by decide)) rfl)⟩, ⟨rfl, fun β => (GOk.plain (op_move (opt 0 rfl)) rfl)⟩, ⟨rfl, fun β => (GOk.plain (op_bin bin_add (opt 0 rfl) (opt 1 rfl)) rfl)⟩, ⟨rfl, fun β => (GOk.plain (op_buildI (xs := [.tmp 201, .tmp 205, .tmp 209, .tmp 213, .tmp 217, .tmp 221, .tmp 225, .tmp 229]) (ys := [IntKind.wrap .u32 ((a_0.getD (0 : Int).toNat 0) + y118), IntKind.wrap .u32 ((a_0.getD (1 : Int).toNat 0) + y119), IntKind.wrap .u32 ((a_0.getD (2 : Int).toNat 0) + y120), IntKind.wrap .u32 ((a_0.getD (3 : Int).toNat 0) + y121), IntKind.wrap .u32 ((a_0.getD (4 : Int).toNat 0) + y122), IntKind.wrap .u32 ((a_0.getD (5 : Int).toNat 0) + y123), IntKind.wrap .u32 ((a_0.getD (6 : Int).toNat 0) + y124), IntKind.wrap .u32 ((a_0.getD (7 : Int).toNat 0) + y125)]) rfl bu85 ⟨⟨_, (opt 0 rfl), (cells_one (one_int _ _))⟩, ⟨_, (opt 1 rfl), (cells_one (one_int _ _))⟩, ⟨_, (opt 2 rfl), (cells_one (one_int _ _))⟩, ⟨_, (opt 3 rfl), (cells_one (one_int _ _))⟩, ⟨_, (opt 4 rfl), (cells_one (one_int _ _))⟩, ⟨_, (opt 5 rfl), (cells_one (one_int _ _))⟩, ⟨_, (opt 6 rfl), (cells_one (one_int _ _))⟩, ⟨_, (opt 7 rfl), (cells_one (one_int _ _))⟩, trivial⟩ (by decide) rfl) rfl)⟩, ⟨rfl, fun β => (GOk.plain (op_store_lb [] [intsCk .u32 8 (List.replicate 8 0)] [] [intsCk .u32 8 ([IntKind.wrap .u32 ((a_0.getD (0 : Int).toNat 0) + y118), IntKind.wrap .u32 ((a_0.getD (1 : Int).toNat 0) + y119), IntKind.wrap .u32 ((a_0.getD (2 : Int).toNat 0) + y120), IntKind.wrap .u32 ((a_0.getD (3 : Int).toNat 0) + y121), IntKind.wrap .u32 ((a_0.getD (4 : Int).toNat 0) + y122), IntKind.wrap .u32 ((a_0.getD (5 : Int).toNat 0) + y123), IntKind.wrap .u32 ((a_0.getD (6 : Int).toNat 0) + y124), IntKind.wrap .u32 ((a_0.getD (7 : Int).toNat 0) + y125)] ++ List.replicate (8 - 8) 0)] Tryd.sizeOf85 (opt 0 rfl) (opt 1 rfl) (cells_agg _) rfl rfl rfl) rfl)⟩, trivial⟩
                clear h
                intro β a w h
                change SatL c [.slot 4 (lpVP p2 0), .res (lb p2 85 [intsCk .u32 8 ([IntKind.wrap .u32 ((a_0.getD (0 : Int).toNat 0) + y118), IntKind.wrap .u32 ((a_0.getD (1 : Int).toNat 0) + y119), IntKind.wrap .u32 ((a_0.getD (2 : Int).toNat 0) + y120), IntKind.wrap .u32 ((a_0.getD (3 : Int).toNat 0) + y121), IntKind.wrap .u32 ((a_0.getD (4 : Int).toNat 0) + y122), IntKind.wrap .u32 ((a_0.getD (5 : Int).toNat 0) + y123), IntKind.wrap .u32 ((a_0.getD (6 : Int).toNat 0) + y124), IntKind.wrap .u32 ((a_0.getD (7 : Int).toNat 0) + y125)] ++ List.replicate (8 - 8) 0)])] a w at h
                clear β
                show Code.wp Tryd.prog _ _ a w
                refine wp_ret ?_
                obtain rfl := Option.some.inj hF
                exact ⟨.inl rfl, ret1 h Tryd.results66 (r_cell 0 1 rfl rfl Tryd.isAgg85 Tryd.sizeOf85 rfl) [] [] rfl rfl rfl⟩
end Go.Proofs.YtbhehllkimedaaaDoor
