/- The functions' Lean twins and contracts, printed by this session's own program: part 3. -/
import Derived.Test.YtamnmljgcmbliaaDoorG2
namespace Go.Proofs.YtamnmljgcmbliaaDoor
open Go Go.RowKit Go.Proofs
set_option maxRecDepth 100000
set_option linter.unusedVariables false
def digest_Log_note.n (a_1 : List UInt8) (a_2 : List UInt8) : Option (Option O_Log) := some none
def digest_Log_note.j2 (x6 : List ((List UInt8) × (List UInt8))) (x7 : List ((List UInt8) × Bool)) : Option (Option O_Log) := some (some ⟨x6, x7⟩)
def digest_Log_note.j1 (s_0 : O_Log) (a_1 : List UInt8) (a_2 : List UInt8) (x5 : Bool) : Option (Option O_Log) := (if x5 = true then digest_Log_note.j2 s_0.f_inputs (upd a_2 true s_0.f_others) else digest_Log_note.j2 (upd a_1 a_2 s_0.f_inputs) s_0.f_others)
def digest_Log_note.s (s_0 : O_Log) (a_1 : List UInt8) (a_2 : List UInt8) : Option (Option O_Log) := (if ((lkp a_1 s_0.f_inputs).isSome) = true then digest_Log_note.j1 s_0 a_1 a_2 (!decide (((lkp a_1 s_0.f_inputs).getD []) = a_2)) else digest_Log_note.j1 s_0 a_1 a_2 false)
def digest_Log_note (L_0 : Option O_Log) (a_1 : List UInt8) (a_2 : List UInt8) : Option (Option O_Log) := match L_0 with | none => digest_Log_note.n a_1 a_2 | some s_0 => digest_Log_note.s s_0 a_1 a_2
theorem digest_Log_note_ok {p_0 : Value} {L_0 : Option O_Log} {a_1 : List UInt8} {a_2 : List UInt8} {r : (Option O_Log)} (hF : digest_Log_note L_0 a_1 a_2 = some r) : CallOk Tryd.prog KG 82 [(eqVP p_0), (aggVP [bytesCk 32 a_1]), (strVP a_2)] [(Log_e p_0 L_0)] (fun _ => [Log_e p_0 r]) (tupVP []) := by
  refine CallOk.intro 36 Tryd.func82 rfl Tryd.ntmps82 (Nat.le_of_ble_eq_true rfl) ?_
  intro c a w hG hn h
  unfold digest_Log_note at hF
  change SatL c [.slot 0 (eqVP p_0), .slot 1 (aggVP [bytesCk 32 a_1]), .slot 2 (strVP a_2), .res (Log_e p_0 L_0)] a w at h
  obtain ⟨h_0_0, h⟩ := h.ex 3 rfl
  obtain ⟨h_0_1, h⟩ := h.ex 3 rfl
  change SatL c [.slot 0 (eqVP p_0), .slot 1 (aggVP [bytesCk 32 a_1]), .slot 2 (strVP a_2), .res (Log_o p_0 h_0_0 h_0_1 L_0)] a w at h
  cases L_0 with
  | none =>
    change digest_Log_note.n a_1 a_2 = some r at hF
    unfold digest_Log_note.n at hF
    obtain rfl := h.isp 3 rfl (fun _ _ _ q => q.2)
    replace h := h.slotc 0 rfl (V' := ptrVP (.pointer none) false) (fun _ _ h => ⟨h, rfl⟩)
    change SatL c [.slot 0 (ptrVP (.pointer none) false), .slot 1 (aggVP [bytesCk 32 a_1]), .slot 2 (strVP a_2), .res (Log_o (.pointer none) h_0_0 h_0_1 none)] a w at h
    refine wp_seq ?_
    refine region_do (n := 36) [.slot 4 0 100000 (fun v1_ _ => (lpVP v1_ 0)),
      .res 0 100000 (fun v1_ _ => (lb (v1_) 23 [bytesCk 32 a_1]))] [0, 0] [⟨[1], [], [4, 5], [], some 4⟩] [0, 2, 4, 3, 5] mixed hn hG h (by kernel_rfl) ?_ ?_
    · exact ⟨⟨rfl, fun β => (GOk.plain (op_box (opt 0 rfl) (cells_agg _)) rfl)⟩, trivial⟩
    clear h
    intro β a w h
    change SatL c [.slot 0 (ptrVP (.pointer none) false), .slot 2 (strVP a_2), .slot 4 (lpVP (β 0) 0), .res (Log_o (.pointer none) h_0_0 h_0_1 none), .res (lb (β 0) 23 [bytesCk 32 a_1])] a w at h
    generalize β 0 = p1 at h
    clear β
    show Code.wp Tryd.prog _ _ a w
    refine wp_seq ?_
    refine wp_seq ?_
    refine region_do (n := 36) [.slot 8 100000 100000 (fun _ _ => (ptrVP (.pointer none) false)),
      .slot 9 100000 100000 (fun _ _ => (boolVP true))] [0, 1] [⟨[0], [], [5], [], some 8⟩, ⟨[5], [], [6], [0], some 9⟩] [0, 1, 2, 6, 3, 4] mixed hn hG h (by kernel_rfl) ?_ ?_
    · exact ⟨⟨rfl, fun β => (GOk.plain (op_move (opt 0 rfl)) rfl)⟩, ⟨rfl, fun β => (GOk.plain (op_bin (bin_pnil Tryd.underlying48) (opt 0 rfl) (opc (ec _))) rfl)⟩, trivial⟩
    clear h
    intro β a w h
    change SatL c [.slot 0 (ptrVP (.pointer none) false), .slot 2 (strVP a_2), .slot 4 (lpVP p1 0), .slot 9 (boolVP true), .res (Log_o (.pointer none) h_0_0 h_0_1 none), .res (lb p1 23 [bytesCk 32 a_1])] a w at h
    clear β
    show Code.wp Tryd.prog _ _ a w
    refine cond_L h 3 rfl (fun hb2 => ?_) (fun hb2 => ?_)
    · skip
      replace h := h.sub [4] (by rfl)
      change SatL c [.res (Log_o (.pointer none) h_0_0 h_0_1 none)] a w at h
      refine wp_ret ?_
      replace h := h.conv 0 rfl Log_packo
      change SatL c [.res (Log_e (.pointer none) none)] a w at h
      obtain rfl := Option.some.inj hF
      exact ⟨.inl rfl, retn h (rs := []) (Vs := []) Tryd.results82 (by decide) trivial [0] [(Log_e (.pointer none) none)] rfl rfl rfl⟩
    · cases hb2
  | some s_0 =>
    change digest_Log_note.s s_0 a_1 a_2 = some r at hF
    unfold digest_Log_note.s at hF
    have hp := h.isp 3 rfl (fun Φ f w q => Log_lp Φ f w q)
    replace h := h.slotc 0 rfl (V' := lpVP p_0 0) (fun _ _ h => eq_lp h hp)
    replace h := h.sep (R := lb p_0 111 [one (eqVP h_0_0), one (eqVP h_0_1)]) (S := (RP.sep (mapR h_0_0 arrK (fun l => l.length = 32) (fun u y => RP.val (strVP y) u) s_0.f_inputs) (mapR h_0_1 strK (fun _ => True) (fun u y => RP.val (boolVP y) u) s_0.f_others))) 3 rfl
    replace h := h.sep (R := mapR h_0_0 arrK (fun l => l.length = 32) (fun u y => RP.val (strVP y) u) s_0.f_inputs) (S := (mapR h_0_1 strK (fun _ => True) (fun u y => RP.val (boolVP y) u) s_0.f_others)) 4 rfl
    replace h := h.sub [0, 1, 2, 3, 4, 5] (by rfl)
    change SatL c [.slot 0 (lpVP p_0 0), .slot 1 (aggVP [bytesCk 32 a_1]), .slot 2 (strVP a_2), .res (lb p_0 111 [one (eqVP h_0_0), one (eqVP h_0_1)]), .res (mapR h_0_0 arrK (fun l => l.length = 32) (fun u y => RP.val (strVP y) u) s_0.f_inputs), .res (mapR h_0_1 strK (fun _ => True) (fun u y => RP.val (boolVP y) u) s_0.f_others)] a w at h
    refine wp_seq ?_
    refine region_do (n := 36) [.slot 4 0 100000 (fun v1_ _ => (lpVP v1_ 0)),
      .res 0 100000 (fun v1_ _ => (lb (v1_) 23 [bytesCk 32 a_1]))] [0, 0] [⟨[1], [], [6, 7], [], some 4⟩] [0, 2, 6, 3, 4, 5, 7] mixed hn hG h (by kernel_rfl) ?_ ?_
    · exact ⟨⟨rfl, fun β => (GOk.plain (op_box (opt 0 rfl) (cells_agg _)) rfl)⟩, trivial⟩
    clear h
    intro β a w h
    change SatL c [.slot 0 (lpVP p_0 0), .slot 2 (strVP a_2), .slot 4 (lpVP (β 0) 0), .res (lb p_0 111 [one (eqVP h_0_0), one (eqVP h_0_1)]), .res (mapR h_0_0 arrK (fun l => l.length = 32) (fun u y => RP.val (strVP y) u) s_0.f_inputs), .res (mapR h_0_1 strK (fun _ => True) (fun u y => RP.val (boolVP y) u) s_0.f_others), .res (lb (β 0) 23 [bytesCk 32 a_1])] a w at h
    generalize β 0 = p3 at h
    clear β
    show Code.wp Tryd.prog _ _ a w
    refine wp_seq ?_
    refine wp_seq ?_
    refine region_do (n := 36) [.slot 8 100000 100000 (fun _ _ => (lpVP p_0 0)),
      .slot 9 100000 100000 (fun _ _ => (boolVP false))] [0, 1] [⟨[0], [], [7], [], some 8⟩, ⟨[7], [], [8], [0], some 9⟩] [0, 1, 2, 8, 3, 4, 5, 6] mixed hn hG h (by kernel_rfl) ?_ ?_
    · exact ⟨⟨rfl, fun β => (GOk.plain (op_move (opt 0 rfl)) rfl)⟩, ⟨rfl, fun β => (GOk.plain (op_bin (bin_pnil Tryd.underlying48) (lp_ptr (opt 0 rfl)) (opc (ec _))) rfl)⟩, trivial⟩
    clear h
    intro β a w h
    change SatL c [.slot 0 (lpVP p_0 0), .slot 2 (strVP a_2), .slot 4 (lpVP p3 0), .slot 9 (boolVP false), .res (lb p_0 111 [one (eqVP h_0_0), one (eqVP h_0_1)]), .res (mapR h_0_0 arrK (fun l => l.length = 32) (fun u y => RP.val (strVP y) u) s_0.f_inputs), .res (mapR h_0_1 strK (fun _ => True) (fun u y => RP.val (boolVP y) u) s_0.f_others), .res (lb p3 23 [bytesCk 32 a_1])] a w at h
    clear β
    show Code.wp Tryd.prog _ _ a w
    refine cond_L h 3 rfl (fun hb4 => ?_) (fun hb4 => ?_)
    · cases hb4
    · skip
      replace h := h.sub [0, 1, 2, 4, 5, 6, 7] (by rfl)
      change SatL c [.slot 0 (lpVP p_0 0), .slot 2 (strVP a_2), .slot 4 (lpVP p3 0), .res (lb p_0 111 [one (eqVP h_0_0), one (eqVP h_0_1)]), .res (mapR h_0_0 arrK (fun l => l.length = 32) (fun u y => RP.val (strVP y) u) s_0.f_inputs), .res (mapR h_0_1 strK (fun _ => True) (fun u y => RP.val (boolVP y) u) s_0.f_others), .res (lb p3 23 [bytesCk 32 a_1])] a w at h
      refine wp_skip ?_
      show Code.wp Tryd.prog _ _ a w
      refine wp_seq ?_
      refine region_do (n := 36) [.slot 11 100000 100000 (fun _ _ => (lpVP p_0 0)),
      .slot 12 100000 100000 (fun _ _ => (lpVP p_0 0)),
      .slot 13 100000 100000 (fun _ _ => (lpVP p_0 0)),
      .slot 14 100000 100000 (fun _ _ => (eqVP h_0_0)),
      .slot 15 100000 100000 (fun _ _ => (aggVP [bytesCk 32 a_1])),
      .slot 16 100000 100000 (fun _ _ => (tupVP [(strVP ((lkp a_1 s_0.f_inputs).getD [])), (boolVP ((lkp a_1 s_0.f_inputs).isSome))])),
      .slot 10 100000 100000 (fun _ _ => (tupVP [(strVP ((lkp a_1 s_0.f_inputs).getD [])), (boolVP ((lkp a_1 s_0.f_inputs).isSome))])),
      .slot 17 100000 100000 (fun _ _ => (strVP ((lkp a_1 s_0.f_inputs).getD []))),
      .slot 18 100000 100000 (fun _ _ => (boolVP ((lkp a_1 s_0.f_inputs).isSome))),
      .slot 6 100000 100000 (fun _ _ => (strVP ((lkp a_1 s_0.f_inputs).getD []))),
      .slot 7 100000 100000 (fun _ _ => (boolVP ((lkp a_1 s_0.f_inputs).isSome)))] [0, 1, 2, 3, 4, 5, 6, 7, 8, 9, 10] [⟨[0], [], [7], [], some 11⟩, ⟨[7], [], [8], [0], some 12⟩, ⟨[8], [], [9], [0, 1], some 13⟩, ⟨[9, 3], [], [10], [0, 1, 2], some 14⟩, ⟨[2, 6], [], [11], [], some 15⟩, ⟨[10, 11, 4], [], [12], [0, 1, 2, 3, 4], some 16⟩, ⟨[12], [], [13], [0, 1, 2, 3, 4, 5], some 10⟩, ⟨[13], [], [14], [0, 1, 2, 3, 4, 5, 6], some 17⟩, ⟨[13], [], [15], [0, 1, 2, 3, 4, 5, 6], some 18⟩, ⟨[14], [], [16], [0, 1, 2, 3, 4, 5, 6, 7], some 6⟩, ⟨[15], [], [17], [0, 1, 2, 3, 4, 5, 6, 7, 8, 9], some 7⟩] [0, 1, 2, 16, 17, 3, 4, 5, 6] mixed hn hG h (by kernel_rfl) ?_ ?_
      · exact ⟨⟨rfl, fun β => (GOk.plain (op_move (opt 0 rfl)) rfl)⟩, ⟨rfl, fun β => (GOk.plain (op_nilCheck (opt 0 rfl) (ptr_lp _ _)) rfl)⟩, ⟨rfl, fun β => (GOk.plain (op_fieldAddr_lbm (p := p_0) (n := 1) 0 0 Tryd.underlying111 rfl Tryd.sizeOf108 (by decide) (opt 0 rfl) rfl) rfl)⟩, ⟨rfl, fun β => (GOk.plain (op_load_lb1 [] [one (eqVP h_0_1)] 1 Tryd.isAgg108 (opt 0 rfl) rfl rfl) rfl)⟩, ⟨rfl, fun β => (GOk.plain (op_load_lb [] [bytesCk 32 a_1] [] 1 Tryd.isAgg23 Tryd.sizeOf23 (opt 0 rfl) rfl rfl rfl) rfl)⟩, ⟨rfl, fun β => (GOk.plain (op_lookup strVP [] 2 Tryd.underlying108 (keyArr Tryd.underlying23 Tryd.underlying5 Tryd.type5 Tryd.sizeOf5 Tryd.isAgg5) Tryd.zeroValue9 (opt 0 rfl) (opt 1 rfl) hk_arr rfl res_id (fun _ _ _ _ _ h => h.2) (fun _ => ⟨rfl, by decide⟩)) rfl)⟩, ⟨rfl, fun β => (GOk.plain (op_move (opt 0 rfl)) rfl)⟩, ⟨rfl, fun β => (GOk.plain (op_extract (opt 0 rfl) rfl) rfl)⟩, ⟨rfl, fun β => (GOk.plain (op_extract (opt 0 rfl) rfl) rfl)⟩, ⟨rfl, fun β => (GOk.plain (op_assign (opt 0 rfl)) rfl)⟩, ⟨rfl, fun β => (GOk.plain (op_assign (opt 0 rfl)) rfl)⟩, trivial⟩
      clear h
      intro β a w h
      change SatL c [.slot 0 (lpVP p_0 0), .slot 2 (strVP a_2), .slot 4 (lpVP p3 0), .slot 6 (strVP ((lkp a_1 s_0.f_inputs).getD [])), .slot 7 (boolVP ((lkp a_1 s_0.f_inputs).isSome)), .res (lb p_0 111 [one (eqVP h_0_0), one (eqVP h_0_1)]), .res (mapR h_0_0 arrK (fun l => l.length = 32) (fun u y => RP.val (strVP y) u) s_0.f_inputs), .res (mapR h_0_1 strK (fun _ => True) (fun u y => RP.val (boolVP y) u) s_0.f_others), .res (lb p3 23 [bytesCk 32 a_1])] a w at h
      clear β
      show Code.wp Tryd.prog _ _ a w
      refine wp_seq ?_
      refine wp_cut (fun a w => ∃ (x5 : Bool), digest_Log_note.j1 s_0 a_1 a_2 x5 = some r ∧ SatL c [.slot 0 (lpVP p_0 0), .slot 2 (strVP a_2), .slot 4 (lpVP p3 0), .slot 24 (boolVP x5), .res (lb p_0 111 [one (eqVP h_0_0), one (eqVP h_0_1)]), .res (mapR h_0_0 arrK (fun l => l.length = 32) (fun u y => RP.val (strVP y) u) s_0.f_inputs), .res (mapR h_0_1 strK (fun _ => True) (fun u y => RP.val (boolVP y) u) s_0.f_others), .res (lb p3 23 [bytesCk 32 a_1])] a w) ?_ ?_
      · rcases Bool.eq_false_or_eq_true ((lkp a_1 s_0.f_inputs).isSome) with hb9 | hb9
        · replace hF := tt_of hb9 hF
          refine region_do (n := 36) [.slot 19 100000 100000 (fun _ _ => (boolVP ((lkp a_1 s_0.f_inputs).isSome))),
      .slot 20 100000 100000 (fun _ _ => (boolVP ((lkp a_1 s_0.f_inputs).isSome))),
      .slot 21 100000 100000 (fun _ _ => (strVP ((lkp a_1 s_0.f_inputs).getD []))),
      .slot 22 100000 100000 (fun _ _ => (strVP a_2)),
      .slot 23 100000 100000 (fun _ _ => (boolVP (!decide (((lkp a_1 s_0.f_inputs).getD []) = a_2)))),
      .slot 24 100000 100000 (fun _ _ => (boolVP (!decide (((lkp a_1 s_0.f_inputs).getD []) = a_2))))] [0, 1, 2, 3, 4, 5] [⟨[4], [], [9], [], some 19⟩, ⟨[9], [], [10], [0], some 20⟩, ⟨[10, 3], [], [11], [0, 1], some 21⟩, ⟨[10, 1], [], [12], [0, 1, 2], some 22⟩, ⟨[10, 11, 12], [], [13], [0, 1, 2, 3], some 23⟩, ⟨[10, 13], [], [14], [0, 1, 2, 3, 4], some 24⟩] [0, 1, 2, 14, 5, 6, 7, 8] mixed hn hG h (by kernel_rfl) ?_ ?_
          · exact ⟨⟨rfl, fun β => (GOk.plain (op_move (opt 0 rfl)) rfl)⟩, ⟨rfl, fun β => (GOk.plain (op_move (opt 0 rfl)) rfl)⟩, ⟨rfl, fun β => (GOk.on_eq hb9 rfl rfl rfl (op_move (opt 0 rfl)))⟩, ⟨rfl, fun β => (GOk.on_eq hb9 rfl rfl rfl (op_move (opt 0 rfl)))⟩, ⟨rfl, fun β => (GOk.on_eq hb9 rfl rfl rfl (op_bin bin_sneq (opt 0 rfl) (opt 1 rfl)))⟩, ⟨rfl, fun β => (GOk.plain (op_pick_t hb9 (opt 0 rfl) (opt 1 rfl)) rfl)⟩, trivial⟩
          clear h
          intro β a w h
          change SatL c [.slot 0 (lpVP p_0 0), .slot 2 (strVP a_2), .slot 4 (lpVP p3 0), .slot 24 (boolVP (!decide (((lkp a_1 s_0.f_inputs).getD []) = a_2))), .res (lb p_0 111 [one (eqVP h_0_0), one (eqVP h_0_1)]), .res (mapR h_0_0 arrK (fun l => l.length = 32) (fun u y => RP.val (strVP y) u) s_0.f_inputs), .res (mapR h_0_1 strK (fun _ => True) (fun u y => RP.val (boolVP y) u) s_0.f_others), .res (lb p3 23 [bytesCk 32 a_1])] a w at h
          clear β
          exact ⟨!decide (((lkp a_1 s_0.f_inputs).getD []) = a_2), hF, h.sub [0, 1, 2, 3, 4, 5, 6, 7] (by rfl)⟩
        · replace hF := ff_of hb9 hF
          refine region_do (n := 36) [.slot 19 100000 100000 (fun _ _ => (boolVP ((lkp a_1 s_0.f_inputs).isSome))),
      .slot 20 100000 100000 (fun _ _ => (boolVP ((lkp a_1 s_0.f_inputs).isSome))),
      .slot 21 100000 100000 (fun _ _ => (eqVP undef)),
      .slot 22 100000 100000 (fun _ _ => (eqVP undef)),
      .slot 23 100000 100000 (fun _ _ => (eqVP undef)),
      .slot 24 100000 100000 (fun _ _ => (boolVP false))] [0, 1, 2, 3, 4, 5] [⟨[4], [], [9], [], some 19⟩, ⟨[9], [], [10], [0], some 20⟩, ⟨[10], [], [11], [0, 1], some 21⟩, ⟨[10], [], [12], [0, 1, 2], some 22⟩, ⟨[10], [], [13], [0, 1, 2, 3], some 23⟩, ⟨[10], [], [14], [0, 1, 2, 3, 4], some 24⟩] [0, 1, 2, 14, 5, 6, 7, 8] mixed hn hG h (by kernel_rfl) ?_ ?_
          · exact ⟨⟨rfl, fun β => (GOk.plain (op_move (opt 0 rfl)) rfl)⟩, ⟨rfl, fun β => (GOk.plain (op_move (opt 0 rfl)) rfl)⟩, ⟨rfl, fun β => (GOk.off_v (want := true) hb9 rfl rfl rfl rfl)⟩, ⟨rfl, fun β => (GOk.off_v (want := true) hb9 rfl rfl rfl rfl)⟩, ⟨rfl, fun β => (GOk.off_v (want := true) hb9 rfl rfl rfl rfl)⟩, ⟨rfl, fun β => (GOk.plain (op_pick_f hb9 (opt 0 rfl) (opc (bc _))) rfl)⟩, trivial⟩
          clear h
          intro β a w h
          change SatL c [.slot 0 (lpVP p_0 0), .slot 2 (strVP a_2), .slot 4 (lpVP p3 0), .slot 24 (boolVP false), .res (lb p_0 111 [one (eqVP h_0_0), one (eqVP h_0_1)]), .res (mapR h_0_0 arrK (fun l => l.length = 32) (fun u y => RP.val (strVP y) u) s_0.f_inputs), .res (mapR h_0_1 strK (fun _ => True) (fun u y => RP.val (boolVP y) u) s_0.f_others), .res (lb p3 23 [bytesCk 32 a_1])] a w at h
          clear β
          exact ⟨false, hF, h.sub [0, 1, 2, 3, 4, 5, 6, 7] (by rfl)⟩
      · clear h hF
        rintro a w ⟨x5, hF, h⟩
        unfold digest_Log_note.j1 at hF
        show Code.wp Tryd.prog _ _ a w
        refine wp_cut (fun a w => ∃ (x6 : List ((List UInt8) × (List UInt8))), ∃ (x7 : List ((List UInt8) × Bool)), digest_Log_note.j2 x6 x7 = some r ∧ SatL c [.res (lb p_0 111 [one (eqVP h_0_0), one (eqVP h_0_1)]), .res (mapR h_0_0 arrK (fun l => l.length = 32) (fun u y => RP.val (strVP y) u) x6), .res (mapR h_0_1 strK (fun _ => True) (fun u y => RP.val (boolVP y) u) x7)] a w) ?_ ?_
        · refine cond_L h 3 rfl (fun hb8 => ?_) (fun hb8 => ?_)
          · replace hF := tt_of hb8 hF
            replace h := h.sub [0, 1, 4, 5, 6] (by rfl)
            change SatL c [.slot 0 (lpVP p_0 0), .slot 2 (strVP a_2), .res (lb p_0 111 [one (eqVP h_0_0), one (eqVP h_0_1)]), .res (mapR h_0_0 arrK (fun l => l.length = 32) (fun u y => RP.val (strVP y) u) s_0.f_inputs), .res (mapR h_0_1 strK (fun _ => True) (fun u y => RP.val (boolVP y) u) s_0.f_others)] a w at h
            refine region_do (n := 36) [.slot 25 100000 100000 (fun _ _ => (lpVP p_0 0)),
      .slot 26 100000 100000 (fun _ _ => (lpVP p_0 0)),
      .slot 27 100000 100000 (fun _ _ => (lpVP p_0 1)),
      .slot 28 100000 100000 (fun _ _ => (eqVP h_0_1)),
      .slot 29 100000 100000 (fun _ _ => (strVP a_2)),
      .res 100000 100000 (fun _ _ => (mapR h_0_1 strK (fun _ => True) (fun u y => RP.val (boolVP y) u) (upd a_2 true s_0.f_others)))] [0, 1, 2, 3, 4, 5] [⟨[0], [], [5], [], some 25⟩, ⟨[5], [], [6], [0], some 26⟩, ⟨[6], [], [7], [0, 1], some 27⟩, ⟨[7, 2], [], [8], [0, 1, 2], some 28⟩, ⟨[1], [], [9], [0, 1, 2, 3], some 29⟩, ⟨[8, 9], [4], [10], [0, 1, 2, 3, 4], none⟩] [2, 3, 10] mixed hn hG h (by kernel_rfl) ?_ ?_
            · exact ⟨⟨rfl, fun β => (GOk.plain (op_move (opt 0 rfl)) rfl)⟩, ⟨rfl, fun β => (GOk.plain (op_nilCheck (opt 0 rfl) (ptr_lp _ _)) rfl)⟩, ⟨rfl, fun β => (GOk.plain (op_fieldAddr_lbm (p := p_0) (n := 1) 0 1 Tryd.underlying111 rfl Tryd.sizeOf109 (by decide) (opt 0 rfl) rfl) rfl)⟩, ⟨rfl, fun β => (GOk.plain (op_load_lb1 [one (eqVP h_0_0)] [] 1 Tryd.isAgg109 (opt 0 rfl) rfl rfl) rfl)⟩, ⟨rfl, fun β => (GOk.plain (op_move (opt 0 rfl)) rfl)⟩, ⟨rfl, fun β => (GOk.plain (op_mapUpdate Tryd.underlying109 (keyStr Tryd.underlying9) (opt 0 rfl) (opt 1 rfl) hk_str (opc (bc _))) rfl)⟩, trivial⟩
            clear h
            intro β a w h
            change SatL c [.res (lb p_0 111 [one (eqVP h_0_0), one (eqVP h_0_1)]), .res (mapR h_0_0 arrK (fun l => l.length = 32) (fun u y => RP.val (strVP y) u) s_0.f_inputs), .res (mapR h_0_1 strK (fun _ => True) (fun u y => RP.val (boolVP y) u) (upd a_2 true s_0.f_others))] a w at h
            clear β
            exact ⟨s_0.f_inputs, upd a_2 true s_0.f_others, hF, h.sub [0, 1, 2] (by rfl)⟩
          · replace hF := ff_of hb8 hF
            replace h := h.sub [0, 1, 2, 4, 5, 6, 7] (by rfl)
            change SatL c [.slot 0 (lpVP p_0 0), .slot 2 (strVP a_2), .slot 4 (lpVP p3 0), .res (lb p_0 111 [one (eqVP h_0_0), one (eqVP h_0_1)]), .res (mapR h_0_0 arrK (fun l => l.length = 32) (fun u y => RP.val (strVP y) u) s_0.f_inputs), .res (mapR h_0_1 strK (fun _ => True) (fun u y => RP.val (boolVP y) u) s_0.f_others), .res (lb p3 23 [bytesCk 32 a_1])] a w at h
            refine region_do (n := 36) [.slot 30 100000 100000 (fun _ _ => (lpVP p_0 0)),
      .slot 31 100000 100000 (fun _ _ => (lpVP p_0 0)),
      .slot 32 100000 100000 (fun _ _ => (lpVP p_0 0)),
      .slot 33 100000 100000 (fun _ _ => (eqVP h_0_0)),
      .slot 34 100000 100000 (fun _ _ => (aggVP [bytesCk 32 a_1])),
      .slot 35 100000 100000 (fun _ _ => (strVP a_2)),
      .res 100000 100000 (fun _ _ => (mapR h_0_0 arrK (fun l => l.length = 32) (fun u y => RP.val (strVP y) u) (upd a_1 a_2 s_0.f_inputs)))] [0, 1, 2, 3, 4, 5, 6] [⟨[0], [], [7], [], some 30⟩, ⟨[7], [], [8], [0], some 31⟩, ⟨[8], [], [9], [0, 1], some 32⟩, ⟨[9, 3], [], [10], [0, 1, 2], some 33⟩, ⟨[2, 6], [], [11], [], some 34⟩, ⟨[1], [], [12], [], some 35⟩, ⟨[10, 11, 12], [4], [13], [0, 1, 2, 3, 4, 5], none⟩] [3, 13, 5] mixed hn hG h (by kernel_rfl) ?_ ?_
            · exact ⟨⟨rfl, fun β => (GOk.plain (op_move (opt 0 rfl)) rfl)⟩, ⟨rfl, fun β => (GOk.plain (op_nilCheck (opt 0 rfl) (ptr_lp _ _)) rfl)⟩, ⟨rfl, fun β => (GOk.plain (op_fieldAddr_lbm (p := p_0) (n := 1) 0 0 Tryd.underlying111 rfl Tryd.sizeOf108 (by decide) (opt 0 rfl) rfl) rfl)⟩, ⟨rfl, fun β => (GOk.plain (op_load_lb1 [] [one (eqVP h_0_1)] 1 Tryd.isAgg108 (opt 0 rfl) rfl rfl) rfl)⟩, ⟨rfl, fun β => (GOk.plain (op_load_lb [] [bytesCk 32 a_1] [] 1 Tryd.isAgg23 Tryd.sizeOf23 (opt 0 rfl) rfl rfl rfl) rfl)⟩, ⟨rfl, fun β => (GOk.plain (op_move (opt 0 rfl)) rfl)⟩, ⟨rfl, fun β => (GOk.plain (op_mapUpdate Tryd.underlying108 (keyArr Tryd.underlying23 Tryd.underlying5 Tryd.type5 Tryd.sizeOf5 Tryd.isAgg5) (opt 0 rfl) (opt 1 rfl) hk_arr (opt 2 rfl)) rfl)⟩, trivial⟩
            clear h
            intro β a w h
            change SatL c [.res (lb p_0 111 [one (eqVP h_0_0), one (eqVP h_0_1)]), .res (mapR h_0_0 arrK (fun l => l.length = 32) (fun u y => RP.val (strVP y) u) (upd a_1 a_2 s_0.f_inputs)), .res (mapR h_0_1 strK (fun _ => True) (fun u y => RP.val (boolVP y) u) s_0.f_others)] a w at h
            clear β
            exact ⟨upd a_1 a_2 s_0.f_inputs, s_0.f_others, hF, h.sub [0, 1, 2] (by rfl)⟩
        · clear h hF
          rintro a w ⟨x6, x7, hF, h⟩
          unfold digest_Log_note.j2 at hF
          replace h := h.unsep 1 2 rfl rfl (by decide)
          replace h := h.unsep 0 1 rfl rfl (by decide)
          replace h := h.conv 0 rfl (R' := Log_e p_0 (some ⟨x6, x7⟩)) (Log_packo (v0 := h_0_0) (v1 := h_0_1) (o := (some ⟨x6, x7⟩)))
          replace h := h.sub [0] (by rfl)
          change SatL c [.res (Log_e p_0 (some ⟨x6, x7⟩))] a w at h
          obtain rfl := Option.some.inj hF
          exact ⟨.inr rfl, retn h (rs := []) (Vs := []) Tryd.results82 (by decide) trivial [0] [(Log_e p_0 (some ⟨x6, x7⟩))] rfl rfl rfl⟩

def digest_Log_Of (L_0 : Option O_Log) (a_1 : Int) (a_2 : List (List UInt8)) : Option ((List UInt8) × (Option O_Log)) := ((digest_input a_1 a_2).bind fun r2 => ((sha_Sum [r2]).bind fun r3 => ((digest_Log_note L_0 r3 r2).bind fun r5 => some (r3, r5))))
theorem digest_Log_Of_ok {p_0 : Value} {L_0 : Option O_Log} {a_1 : Int} {a_2 : List (List UInt8)} {r : (List UInt8) × (Option O_Log)} (hF : digest_Log_Of L_0 a_1 a_2 = some r) : CallOk Tryd.prog KG 62 [(eqVP p_0), (intVP .u8 a_1), (slVP strC a_2)] [(Log_e p_0 L_0)] (fun _ => [Log_e p_0 r.2]) (aggVP [bytesCk 32 r.1]) := by
  refine CallOk.intro 20 Tryd.func62 rfl Tryd.ntmps62 (Nat.le_of_ble_eq_true rfl) ?_
  intro c a w hG hn h
  unfold digest_Log_Of at hF
  change SatL c [.slot 0 (eqVP p_0), .slot 1 (intVP .u8 a_1), .slot 2 (slVP strC a_2), .res (Log_e p_0 L_0)] a w at h
  refine wp_seq ?_
  refine region_do (n := 20) [.slot 6 0 100000 (fun v1_ _ => (lpVP v1_ 0)),
      .res 0 100000 (fun v1_ _ => (lb (v1_) 23 [bytesCk 32 (List.replicate 32 0)]))] [0, 0] [⟨[], [], [4, 5], [], some 6⟩] [0, 1, 2, 4, 3, 5] mixed hn hG h (by kernel_rfl) ?_ ?_
  · exact ⟨⟨rfl, fun β => (GOk.plain (op_alloc Tryd.zeroValue23 z23) rfl)⟩, trivial⟩
  clear h
  intro β a w h
  change SatL c [.slot 0 (eqVP p_0), .slot 1 (intVP .u8 a_1), .slot 2 (slVP strC a_2), .slot 6 (lpVP (β 0) 0), .res (Log_e p_0 L_0), .res (lb (β 0) 23 [bytesCk 32 (List.replicate 32 0)])] a w at h
  generalize β 0 = p1 at h
  clear β
  show Code.wp Tryd.prog _ _ a w
  refine wp_seq ?_
  obtain ⟨r2, hr2, hF⟩ := bind_some hF
  refine region_do (n := 20) [.slot 9 100000 100000 (fun _ _ => (intVP .u8 a_1)),
      .slot 10 100000 100000 (fun _ _ => (slVP strC a_2)),
      .slot 11 100000 100000 (fun _ _ => (strVP r2)),
      .slot 7 100000 100000 (fun _ _ => (strVP r2))] [0, 1, 2, 3] [⟨[1], [], [6], [], some 9⟩, ⟨[2], [], [7], [0], some 10⟩, ⟨[6, 7], [], [8], [0, 1], some 11⟩, ⟨[8], [], [9], [0, 1, 2], some 7⟩] [0, 3, 9, 4, 5] mixed hn hG h (by kernel_rfl) ?_ ?_
  · exact ⟨⟨rfl, fun β => (GOk.plain (op_move (opt 0 rfl)) rfl)⟩, ⟨rfl, fun β => (GOk.plain (op_move (opt 0 rfl)) rfl)⟩, ⟨rfl, fun β => (GOk.plain (op_call Tryd.call80 (digest_input_ok hr2) ⟨(opt 0 rfl), (opt 1 rfl), trivial⟩) rfl)⟩, ⟨rfl, fun β => (GOk.plain (op_assign (opt 0 rfl)) rfl)⟩, trivial⟩
  clear h
  intro β a w h
  change SatL c [.slot 0 (eqVP p_0), .slot 6 (lpVP p1 0), .slot 7 (strVP r2), .res (Log_e p_0 L_0), .res (lb p1 23 [bytesCk 32 (List.replicate 32 0)])] a w at h
  clear β
  show Code.wp Tryd.prog _ _ a w
  refine wp_seq ?_
  obtain ⟨r3, hr3, hF⟩ := bind_some hF
  refine region_do (n := 20) [.slot 12 100000 100000 (fun _ _ => (strVP r2)),
      .slot 13 100000 100000 (fun _ _ => (slVP strC [r2])),
      .slot 14 100000 100000 (fun _ _ => (aggVP [bytesCk 32 r3])),
      .slot 8 3 100000 (fun v1_ _ => (lpVP v1_ 0)),
      .res 3 100000 (fun v1_ _ => (lb (v1_) 23 [bytesCk 32 (List.replicate 32 0)])),
      .res 3 100000 (fun v1_ _ => (lb (v1_) 23 [bytesCk 32 r3]))] [0, 1, 2, 3, 3, 4] [⟨[2], [], [5], [], some 12⟩, ⟨[5], [], [6], [0], some 13⟩, ⟨[6], [], [7], [0, 1], some 14⟩, ⟨[], [], [8, 9], [0, 1, 2], some 8⟩, ⟨[8, 7], [9], [10], [0, 1, 2, 3], none⟩] [0, 1, 2, 8, 3, 4, 10] mixed hn hG h (by kernel_rfl) ?_ ?_
  · exact ⟨⟨rfl, fun β => (GOk.plain (op_move (opt 0 rfl)) rfl)⟩, ⟨rfl, fun β => (GOk.plain (op_lit (xs := [.tmp 12]) (ys := [r2]) _ rfl Tryd.underlying101 Tryd.sizeOf9 Tryd.zeroValue9 rfl rfl (by decide) (by decide) ⟨⟨_, (opt 0 rfl), (cells_one (one_str _))⟩, trivial⟩ lens_strC) rfl)⟩, ⟨rfl, fun β => (GOk.plain (op_call Tryd.call81 (sha_Sum_ok hr3) ⟨(opt 0 rfl), trivial⟩) rfl)⟩, ⟨rfl, fun β => (GOk.plain (op_alloc Tryd.zeroValue23 z23) rfl)⟩, ⟨rfl, fun β => (GOk.plain (op_store_lb [] [bytesCk 32 (List.replicate 32 0)] [] [bytesCk 32 r3] Tryd.sizeOf23 (opt 0 rfl) (opt 1 rfl) (cells_agg _) rfl rfl rfl) rfl)⟩, trivial⟩
  clear h
  intro β a w h
  change SatL c [.slot 0 (eqVP p_0), .slot 6 (lpVP p1 0), .slot 7 (strVP r2), .slot 8 (lpVP (β 3) 0), .res (Log_e p_0 L_0), .res (lb p1 23 [bytesCk 32 (List.replicate 32 0)]), .res (lb (β 3) 23 [bytesCk 32 r3])] a w at h
  generalize β 3 = p4 at h
  clear β
  show Code.wp Tryd.prog _ _ a w
  refine wp_seq ?_
  obtain ⟨r5, hr5, hF⟩ := bind_some hF
  refine region_do (n := 20) [.slot 15 100000 100000 (fun _ _ => (eqVP p_0)),
      .slot 16 100000 100000 (fun _ _ => (aggVP [bytesCk 32 r3])),
      .slot 17 100000 100000 (fun _ _ => (strVP r2)),
      .slot 18 100000 100000 (fun _ _ => (tupVP [])),
      .res 100000 100000 (fun _ _ => (Log_e p_0 r5))] [0, 1, 2, 3, 3] [⟨[0], [], [7], [], some 15⟩, ⟨[3, 6], [], [8], [0], some 16⟩, ⟨[2], [], [9], [0, 1], some 17⟩, ⟨[7, 8, 9], [4], [10, 11], [0, 1, 2], some 18⟩] [1, 3, 5, 6, 11] mixed hn hG h (by kernel_rfl) ?_ ?_
  · exact ⟨⟨rfl, fun β => (GOk.plain (op_move (opt 0 rfl)) rfl)⟩, ⟨rfl, fun β => (GOk.plain (op_load_lb [] [bytesCk 32 r3] [] 1 Tryd.isAgg23 Tryd.sizeOf23 (opt 0 rfl) rfl rfl rfl) rfl)⟩, ⟨rfl, fun β => (GOk.plain (op_move (opt 0 rfl)) rfl)⟩, ⟨rfl, fun β => (GOk.plain (op_call Tryd.call82 (digest_Log_note_ok hr5) ⟨(opt 0 rfl), (opt 1 rfl), (opt 2 rfl), trivial⟩) rfl)⟩, trivial⟩
  clear h
  intro β a w h
  change SatL c [.slot 6 (lpVP p1 0), .slot 8 (lpVP p4 0), .res (lb p1 23 [bytesCk 32 (List.replicate 32 0)]), .res (lb p4 23 [bytesCk 32 r3]), .res (Log_e p_0 r5)] a w at h
  clear β
  show Code.wp Tryd.prog _ _ a w
  refine wp_seq ?_
  refine region_do (n := 20) [.slot 19 100000 100000 (fun _ _ => (aggVP [bytesCk 32 r3])),
      .res 100000 100000 (fun _ _ => (lb p1 23 [bytesCk 32 r3]))] [0, 1] [⟨[1, 3], [], [5], [], some 19⟩, ⟨[0, 5], [2], [6], [0], none⟩] [0, 6, 4] mixed hn hG h (by kernel_rfl) ?_ ?_
  · exact ⟨⟨rfl, fun β => (GOk.plain (op_load_lb [] [bytesCk 32 r3] [] 1 Tryd.isAgg23 Tryd.sizeOf23 (opt 0 rfl) rfl rfl rfl) rfl)⟩, ⟨rfl, fun β => (GOk.plain (op_store_lb [] [bytesCk 32 (List.replicate 32 0)] [] [bytesCk 32 r3] Tryd.sizeOf23 (opt 0 rfl) (opt 1 rfl) (cells_agg _) rfl rfl rfl) rfl)⟩, trivial⟩
  clear h
  intro β a w h
  change SatL c [.slot 6 (lpVP p1 0), .res (lb p1 23 [bytesCk 32 r3]), .res (Log_e p_0 r5)] a w at h
  clear β
  show Code.wp Tryd.prog _ _ a w
  refine wp_ret ?_
  obtain rfl := Option.some.inj hF
  exact ⟨.inl rfl, ret1 h Tryd.results62 (r_cell 0 1 rfl rfl Tryd.isAgg23 Tryd.sizeOf23 rfl) [2] [(Log_e p_0 r5)] rfl rfl rfl⟩

def wire_Digest (a_0 : List UInt8) : Option (List UInt8) := some (a_0.take ((32 : Int).toNat - (0 : Int).toNat))
theorem wire_Digest_ok {a_0 : List UInt8} {r : (List UInt8)} (hF : wire_Digest a_0 = some r) : CallOk Tryd.prog KG 64 [(aggVP [bytesCk 32 a_0])] [] (fun _ => []) (strVP r) := by
  refine CallOk.intro 5 Tryd.func64 rfl Tryd.ntmps64 (Nat.le_of_ble_eq_true rfl) ?_
  intro c a w hG hn h
  unfold wire_Digest at hF
  change SatL c [.slot 0 (aggVP [bytesCk 32 a_0])] a w at h
  refine wp_seq ?_
  refine region_do (n := 5) [.slot 1 0 100000 (fun v1_ _ => (lpVP v1_ 0)),
      .res 0 100000 (fun v1_ _ => (lb (v1_) 23 [bytesCk 32 a_0])),
      .slot 2 100000 100000 (fun _ _ => (strVP []))] [0, 0, 1] [⟨[0], [], [1, 2], [], some 1⟩, ⟨[], [], [3], [0], some 2⟩] [1, 2] mixed hn hG h (by kernel_rfl) ?_ ?_
  · exact ⟨⟨rfl, fun β => (GOk.plain (op_box (opt 0 rfl) (cells_agg _)) rfl)⟩, ⟨rfl, fun β => (GOk.plain (op_assign (opc (sc _ (by decide)))) rfl)⟩, trivial⟩
  clear h
  intro β a w h
  change SatL c [.slot 1 (lpVP (β 0) 0), .res (lb (β 0) 23 [bytesCk 32 a_0])] a w at h
  generalize β 0 = p1 at h
  clear β
  show Code.wp Tryd.prog _ _ a w
  refine wp_seq ?_
  refine region_do (n := 5) [.slot 3 100000 100000 (fun _ _ => (lslVP p1 (0 + (0 : Int).toNat * 1) ((32 : Int).toNat - (0 : Int).toNat) (32 - (0 : Int).toNat))),
      .slot 4 100000 100000 (fun _ _ => (strVP (a_0.take ((32 : Int).toNat - (0 : Int).toNat)))),
      .slot 2 100000 100000 (fun _ _ => (strVP (a_0.take ((32 : Int).toNat - (0 : Int).toNat))))] [0, 1, 2] [⟨[0], [], [2], [], some 3⟩, ⟨[2, 1], [], [3], [0], some 4⟩, ⟨[3], [], [4], [0, 1], some 2⟩] [4] mixed hn hG h (by kernel_rfl) ?_ ?_
  · exact ⟨⟨rfl, fun β => (GOk.plain (op_slice_lb (a := 0) (b := 32) Tryd.underlying23 Tryd.sizeOf5 (opt 0 rfl) rfl rfl (by decide)) rfl)⟩, ⟨rfl, fun β => (GOk.plain (op_str_lsl [] [] 1 Tryd.underlying129 Tryd.underlying5 Tryd.underlying9 (opt 0 rfl) rfl rfl (by decide) (by decide)) rfl)⟩, ⟨rfl, fun β => (GOk.plain (op_assign (opt 0 rfl)) rfl)⟩, trivial⟩
  clear h
  intro β a w h
  change SatL c [.slot 2 (strVP (a_0.take ((32 : Int).toNat - (0 : Int).toNat)))] a w at h
  clear β
  show Code.wp Tryd.prog _ _ a w
  refine wp_ret ?_
  obtain rfl := Option.some.inj hF
  exact ⟨.inl rfl, ret1 h Tryd.results64 (r_tmp 0 rfl) [] [] rfl rfl rfl⟩

def lamport_Public (L_0 : Option O_Log) (a_1 : List UInt8) : Option ((List UInt8) × (Option O_Log)) := ((wire_Digest a_1).bind fun r3 => ((digest_Log_Of L_0 2 [r3]).bind fun r4 => some (r4.1, r4.2)))
theorem lamport_Public_ok {p_0 : Value} {L_0 : Option O_Log} {a_1 : List UInt8} {r : (List UInt8) × (Option O_Log)} (hF : lamport_Public L_0 a_1 = some r) : CallOk Tryd.prog KG 68 [(eqVP p_0), (aggVP [bytesCk 32 a_1])] [(Log_e p_0 L_0)] (fun _ => [Log_e p_0 r.2]) (aggVP [bytesCk 32 r.1]) := by
  refine CallOk.intro 10 Tryd.func68 rfl Tryd.ntmps68 (Nat.le_of_ble_eq_true rfl) ?_
  intro c a w hG hn h
  unfold lamport_Public at hF
  change SatL c [.slot 0 (eqVP p_0), .slot 1 (aggVP [bytesCk 32 a_1]), .res (Log_e p_0 L_0)] a w at h
  refine wp_seq ?_
  refine region_do (n := 10) [.slot 3 0 100000 (fun v1_ _ => (lpVP v1_ 0)),
      .res 0 100000 (fun v1_ _ => (lb (v1_) 23 [bytesCk 32 a_1])),
      .slot 4 1 100000 (fun v1_ _ => (lpVP v1_ 0)),
      .res 1 100000 (fun v1_ _ => (lb (v1_) 23 [bytesCk 32 (List.replicate 32 0)]))] [0, 0, 1, 1] [⟨[1], [], [3, 4], [], some 3⟩, ⟨[], [], [5, 6], [0], some 4⟩] [0, 3, 5, 2, 4, 6] mixed hn hG h (by kernel_rfl) ?_ ?_
  · exact ⟨⟨rfl, fun β => (GOk.plain (op_box (opt 0 rfl) (cells_agg _)) rfl)⟩, ⟨rfl, fun β => (GOk.plain (op_alloc Tryd.zeroValue23 z23) rfl)⟩, trivial⟩
  clear h
  intro β a w h
  change SatL c [.slot 0 (eqVP p_0), .slot 3 (lpVP (β 0) 0), .slot 4 (lpVP (β 1) 0), .res (Log_e p_0 L_0), .res (lb (β 0) 23 [bytesCk 32 a_1]), .res (lb (β 1) 23 [bytesCk 32 (List.replicate 32 0)])] a w at h
  generalize β 0 = p1 at h
  generalize β 1 = p2 at h
  clear β
  show Code.wp Tryd.prog _ _ a w
  refine wp_seq ?_
  obtain ⟨r3, hr3, hF⟩ := bind_some hF
  obtain ⟨r4, hr4, hF⟩ := bind_some hF
  refine region_do (n := 10) [.slot 5 100000 100000 (fun _ _ => (eqVP p_0)),
      .slot 6 100000 100000 (fun _ _ => (aggVP [bytesCk 32 a_1])),
      .slot 7 100000 100000 (fun _ _ => (strVP r3)),
      .slot 8 100000 100000 (fun _ _ => (slVP strC [r3])),
      .slot 9 100000 100000 (fun _ _ => (aggVP [bytesCk 32 r4.1])),
      .res 100000 100000 (fun _ _ => (Log_e p_0 r4.2)),
      .res 100000 100000 (fun _ _ => (lb p2 23 [bytesCk 32 r4.1]))] [0, 1, 2, 3, 4, 4, 5] [⟨[0], [], [6], [], some 5⟩, ⟨[1, 4], [], [7], [0], some 6⟩, ⟨[7], [], [8], [0, 1], some 7⟩, ⟨[8], [], [9], [0, 1, 2], some 8⟩, ⟨[6, 9], [3], [10, 11], [0, 1, 2, 3], some 9⟩, ⟨[2, 10], [5], [12], [0, 1, 2, 3, 4], none⟩] [2, 12, 11] mixed hn hG h (by kernel_rfl) ?_ ?_
  · exact ⟨⟨rfl, fun β => (GOk.plain (op_move (opt 0 rfl)) rfl)⟩, ⟨rfl, fun β => (GOk.plain (op_load_lb [] [bytesCk 32 a_1] [] 1 Tryd.isAgg23 Tryd.sizeOf23 (opt 0 rfl) rfl rfl rfl) rfl)⟩, ⟨rfl, fun β => (GOk.plain (op_call Tryd.call64 (wire_Digest_ok hr3) ⟨(opt 0 rfl), trivial⟩) rfl)⟩, ⟨rfl, fun β => (GOk.plain (op_lit (xs := [.tmp 7]) (ys := [r3]) _ rfl Tryd.underlying101 Tryd.sizeOf9 Tryd.zeroValue9 rfl rfl (by decide) (by decide) ⟨⟨_, (opt 0 rfl), (cells_one (one_str _))⟩, trivial⟩ lens_strC) rfl)⟩, ⟨rfl, fun β => (GOk.plain (op_call Tryd.call62 (digest_Log_Of_ok hr4) ⟨(opt 0 rfl), (opc (ic (by decide))), (opt 1 rfl), trivial⟩) rfl)⟩, ⟨rfl, fun β => (GOk.plain (op_store_lb [] [bytesCk 32 (List.replicate 32 0)] [] [bytesCk 32 r4.1] Tryd.sizeOf23 (opt 0 rfl) (opt 1 rfl) (cells_agg _) rfl rfl rfl) rfl)⟩, trivial⟩
  clear h
  intro β a w h
  change SatL c [.slot 4 (lpVP p2 0), .res (lb p2 23 [bytesCk 32 r4.1]), .res (Log_e p_0 r4.2)] a w at h
  clear β
  show Code.wp Tryd.prog _ _ a w
  refine wp_ret ?_
  obtain rfl := Option.some.inj hF
  exact ⟨.inl rfl, ret1 h Tryd.results68 (r_cell 0 1 rfl rfl Tryd.isAgg23 Tryd.sizeOf23 rfl) [2] [(Log_e p_0 r4.2)] rfl rfl rfl⟩

def wire_Byte (a_0 : Int) : Option (List UInt8) := ((wire_big (IntKind.wrap .u64 a_0) 1).bind fun r1 => some r1)
theorem wire_Byte_ok {a_0 : Int} {r : (List UInt8)} (hF : wire_Byte a_0 = some r) : CallOk Tryd.prog KG 86 [(intVP .u8 a_0)] [] (fun _ => []) (strVP r) := by
  refine CallOk.intro 6 Tryd.func86 rfl Tryd.ntmps86 (Nat.le_of_ble_eq_true rfl) ?_
  intro c a w hG hn h
  unfold wire_Byte at hF
  change SatL c [.slot 0 (intVP .u8 a_0)] a w at h
  refine wp_seq ?_
  refine region_do (n := 6) [.slot 2 100000 100000 (fun _ _ => (strVP []))] [0] [⟨[], [], [1], [], some 2⟩] [0] mixed hn hG h (by kernel_rfl) ?_ ?_
  · exact ⟨⟨rfl, fun β => (GOk.plain (op_assign (opc (sc _ (by decide)))) rfl)⟩, trivial⟩
  clear h
  intro β a w h
  change SatL c [.slot 0 (intVP .u8 a_0)] a w at h
  clear β
  show Code.wp Tryd.prog _ _ a w
  refine wp_seq ?_
  obtain ⟨r1, hr1, hF⟩ := bind_some hF
  refine region_do (n := 6) [.slot 3 100000 100000 (fun _ _ => (intVP .u8 a_0)),
      .slot 4 100000 100000 (fun _ _ => (intVP .u64 (IntKind.wrap .u64 a_0))),
      .slot 5 100000 100000 (fun _ _ => (strVP r1)),
      .slot 2 100000 100000 (fun _ _ => (strVP r1))] [0, 1, 2, 3] [⟨[0], [], [1], [], some 3⟩, ⟨[1], [], [2], [0], some 4⟩, ⟨[2], [], [3], [0, 1], some 5⟩, ⟨[3], [], [4], [0, 1, 2], some 2⟩] [4] mixed hn hG h (by kernel_rfl) ?_ ?_
  · exact ⟨⟨rfl, fun β => (GOk.plain (op_move (opt 0 rfl)) rfl)⟩, ⟨rfl, fun β => (GOk.plain (op_convert_int Tryd.underlying5 Tryd.underlying114 (opt 0 rfl)) rfl)⟩, ⟨rfl, fun β => (GOk.plain (op_call Tryd.call83 (wire_big_ok hr1) ⟨(opt 0 rfl), (opc (ic (by decide))), trivial⟩) rfl)⟩, ⟨rfl, fun β => (GOk.plain (op_assign (opt 0 rfl)) rfl)⟩, trivial⟩
  clear h
  intro β a w h
  change SatL c [.slot 2 (strVP r1)] a w at h
  clear β
  show Code.wp Tryd.prog _ _ a w
  refine wp_ret ?_
  obtain rfl := Option.some.inj hF
  exact ⟨.inl rfl, ret1 h Tryd.results86 (r_tmp 0 rfl) [] [] rfl rfl rfl⟩

def lamport_Secret (L_0 : Option O_Log) (a_1 : List UInt8) (a_2 : Int) (a_3 : Int) (a_4 : Int) : Option ((List UInt8) × (Option O_Log)) := ((wire_Digest a_1).bind fun r3 => ((wire_Word (IntKind.wrap .u32 a_2)).bind fun r4 => ((wire_Byte (IntKind.wrap .u8 a_3)).bind fun r5 => ((wire_Byte (IntKind.wrap .u8 a_4)).bind fun r6 => ((digest_Log_Of L_0 1 [r3, r4, r5, r6]).bind fun r7 => some (r7.1, r7.2))))))
theorem lamport_Secret_ok {p_0 : Value} {L_0 : Option O_Log} {a_1 : List UInt8} {a_2 : Int} {a_3 : Int} {a_4 : Int} {r : (List UInt8) × (Option O_Log)} (hF : lamport_Secret L_0 a_1 a_2 a_3 a_4 = some r) : CallOk Tryd.prog KG 69 [(eqVP p_0), (aggVP [bytesCk 32 a_1]), (intVP .i64 a_2), (intVP .i64 a_3), (intVP .i64 a_4)] [(Log_e p_0 L_0)] (fun _ => [Log_e p_0 r.2]) (aggVP [bytesCk 32 r.1]) := by
  refine CallOk.intro 25 Tryd.func69 rfl Tryd.ntmps69 (Nat.le_of_ble_eq_true rfl) ?_
  intro c a w hG hn h
  unfold lamport_Secret at hF
  change SatL c [.slot 0 (eqVP p_0), .slot 1 (aggVP [bytesCk 32 a_1]), .slot 2 (intVP .i64 a_2), .slot 3 (intVP .i64 a_3), .slot 4 (intVP .i64 a_4), .res (Log_e p_0 L_0)] a w at h
  refine wp_seq ?_
  refine region_do (n := 25) [.slot 6 0 100000 (fun v1_ _ => (lpVP v1_ 0)),
      .res 0 100000 (fun v1_ _ => (lb (v1_) 23 [bytesCk 32 a_1])),
      .slot 10 1 100000 (fun v1_ _ => (lpVP v1_ 0)),
      .res 1 100000 (fun v1_ _ => (lb (v1_) 23 [bytesCk 32 (List.replicate 32 0)]))] [0, 0, 1, 1] [⟨[1], [], [6, 7], [], some 6⟩, ⟨[], [], [8, 9], [0], some 10⟩] [0, 2, 3, 4, 6, 8, 5, 7, 9] mixed hn hG h (by kernel_rfl) ?_ ?_
  · exact ⟨⟨rfl, fun β => (GOk.plain (op_box (opt 0 rfl) (cells_agg _)) rfl)⟩, ⟨rfl, fun β => (GOk.plain (op_alloc Tryd.zeroValue23 z23) rfl)⟩, trivial⟩
  clear h
  intro β a w h
  change SatL c [.slot 0 (eqVP p_0), .slot 2 (intVP .i64 a_2), .slot 3 (intVP .i64 a_3), .slot 4 (intVP .i64 a_4), .slot 6 (lpVP (β 0) 0), .slot 10 (lpVP (β 1) 0), .res (Log_e p_0 L_0), .res (lb (β 0) 23 [bytesCk 32 a_1]), .res (lb (β 1) 23 [bytesCk 32 (List.replicate 32 0)])] a w at h
  generalize β 0 = p1 at h
  generalize β 1 = p2 at h
  clear β
  show Code.wp Tryd.prog _ _ a w
  refine wp_seq ?_
  obtain ⟨r3, hr3, hF⟩ := bind_some hF
  obtain ⟨r4, hr4, hF⟩ := bind_some hF
  obtain ⟨r5, hr5, hF⟩ := bind_some hF
  obtain ⟨r6, hr6, hF⟩ := bind_some hF
  obtain ⟨r7, hr7, hF⟩ := bind_some hF
  refine region_do (n := 25) [.slot 11 100000 100000 (fun _ _ => (eqVP p_0)),
      .slot 12 100000 100000 (fun _ _ => (aggVP [bytesCk 32 a_1])),
      .slot 13 100000 100000 (fun _ _ => (strVP r3)),
      .slot 14 100000 100000 (fun _ _ => (intVP .i64 a_2)),
      .slot 15 100000 100000 (fun _ _ => (intVP .u32 (IntKind.wrap .u32 a_2))),
      .slot 16 100000 100000 (fun _ _ => (strVP r4)),
      .slot 17 100000 100000 (fun _ _ => (intVP .i64 a_3)),
      .slot 18 100000 100000 (fun _ _ => (intVP .u8 (IntKind.wrap .u8 a_3))),
      .slot 19 100000 100000 (fun _ _ => (strVP r5)),
      .slot 20 100000 100000 (fun _ _ => (intVP .i64 a_4)),
      .slot 21 100000 100000 (fun _ _ => (intVP .u8 (IntKind.wrap .u8 a_4))),
      .slot 22 100000 100000 (fun _ _ => (strVP r6)),
      .slot 23 100000 100000 (fun _ _ => (slVP strC [r3, r4, r5, r6])),
      .slot 24 100000 100000 (fun _ _ => (aggVP [bytesCk 32 r7.1])),
      .res 100000 100000 (fun _ _ => (Log_e p_0 r7.2)),
      .res 100000 100000 (fun _ _ => (lb p2 23 [bytesCk 32 r7.1]))] [0, 1, 2, 3, 4, 5, 6, 7, 8, 9, 10, 11, 12, 13, 13, 14] [⟨[0], [], [9], [], some 11⟩, ⟨[4, 7], [], [10], [0], some 12⟩, ⟨[10], [], [11], [0, 1], some 13⟩, ⟨[1], [], [12], [0, 1, 2], some 14⟩, ⟨[12], [], [13], [0, 1, 2, 3], some 15⟩, ⟨[13], [], [14], [0, 1, 2, 3, 4], some 16⟩, ⟨[2], [], [15], [0, 1, 2, 3, 4, 5], some 17⟩, ⟨[15], [], [16], [0, 1, 2, 3, 4, 5, 6], some 18⟩, ⟨[16], [], [17], [0, 1, 2, 3, 4, 5, 6, 7], some 19⟩, ⟨[3], [], [18], [0, 1, 2, 3, 4, 5, 6, 7, 8], some 20⟩, ⟨[18], [], [19], [0, 1, 2, 3, 4, 5, 6, 7, 8, 9], some 21⟩, ⟨[19], [], [20], [0, 1, 2, 3, 4, 5, 6, 7, 8, 9, 10], some 22⟩, ⟨[11, 14, 17, 20], [], [21], [0, 1, 2, 3, 4, 5, 6, 7, 8, 9, 10, 11], some 23⟩, ⟨[9, 21], [6], [22, 23], [0, 1, 2, 3, 4, 5, 6, 7, 8, 9, 10, 11, 12], some 24⟩, ⟨[5, 22], [8], [24], [0, 1, 2, 3, 4, 5, 6, 7, 8, 9, 10, 11, 12, 13], none⟩] [5, 24, 23] mixed hn hG h (by kernel_rfl) ?_ ?_
  · exact ⟨⟨rfl, fun β => (GOk.plain (op_move (opt 0 rfl)) rfl)⟩, ⟨rfl, fun β => (GOk.plain (op_load_lb [] [bytesCk 32 a_1] [] 1 Tryd.isAgg23 Tryd.sizeOf23 (opt 0 rfl) rfl rfl rfl) rfl)⟩, ⟨rfl, fun β => (GOk.plain (op_call Tryd.call64 (wire_Digest_ok hr3) ⟨(opt 0 rfl), trivial⟩) rfl)⟩, ⟨rfl, fun β => (GOk.plain (op_move (opt 0 rfl)) rfl)⟩, ⟨rfl, fun β => (GOk.plain (op_convert_int Tryd.underlying3 Tryd.underlying51 (opt 0 rfl)) rfl)⟩, ⟨rfl, fun β => (GOk.plain (op_call Tryd.call63 (wire_Word_ok hr4) ⟨(opt 0 rfl), trivial⟩) rfl)⟩, ⟨rfl, fun β => (GOk.plain (op_move (opt 0 rfl)) rfl)⟩, ⟨rfl, fun β => (GOk.plain (op_convert_int Tryd.underlying3 Tryd.underlying5 (opt 0 rfl)) rfl)⟩, ⟨rfl, fun β => (GOk.plain (op_call Tryd.call86 (wire_Byte_ok hr5) ⟨(opt 0 rfl), trivial⟩) rfl)⟩, ⟨rfl, fun β => (GOk.plain (op_move (opt 0 rfl)) rfl)⟩, ⟨rfl, fun β => (GOk.plain (op_convert_int Tryd.underlying3 Tryd.underlying5 (opt 0 rfl)) rfl)⟩, ⟨rfl, fun β => (GOk.plain (op_call Tryd.call86 (wire_Byte_ok hr6) ⟨(opt 0 rfl), trivial⟩) rfl)⟩, ⟨rfl, fun β => (GOk.plain (op_lit (xs := [.tmp 13, .tmp 16, .tmp 19, .tmp 22]) (ys := [r3, r4, r5, r6]) _ rfl Tryd.underlying101 Tryd.sizeOf9 Tryd.zeroValue9 rfl rfl (by decide) (by decide) ⟨⟨_, (opt 0 rfl), (cells_one (one_str _))⟩, ⟨_, (opt 1 rfl), (cells_one (one_str _))⟩, ⟨_, (opt 2 rfl), (cells_one (one_str _))⟩, ⟨_, (opt 3 rfl), (cells_one (one_str _))⟩, trivial⟩ lens_strC) rfl)⟩, ⟨rfl, fun β => (GOk.plain (op_call Tryd.call62 (digest_Log_Of_ok hr7) ⟨(opt 0 rfl), (opc (ic (by decide))), (opt 1 rfl), trivial⟩) rfl)⟩, ⟨rfl, fun β => (GOk.plain (op_store_lb [] [bytesCk 32 (List.replicate 32 0)] [] [bytesCk 32 r7.1] Tryd.sizeOf23 (opt 0 rfl) (opt 1 rfl) (cells_agg _) rfl rfl rfl) rfl)⟩, trivial⟩
  clear h
  intro β a w h
  change SatL c [.slot 10 (lpVP p2 0), .res (lb p2 23 [bytesCk 32 r7.1]), .res (Log_e p_0 r7.2)] a w at h
  clear β
  show Code.wp Tryd.prog _ _ a w
  refine wp_ret ?_
  obtain rfl := Option.some.inj hF
  exact ⟨.inl rfl, ret1 h Tryd.results69 (r_cell 0 1 rfl rfl Tryd.isAgg23 Tryd.sizeOf23 rfl) [2] [(Log_e p_0 r7.2)] rfl rfl rfl⟩

def strings_Builder_Write (L_0 : O_Bld) (a_1 : List (UInt8)) : Option (Int × Value × O_Bld) := (if L_0.f_buf.length + a_1.length ≤ mxl ∧ (L_0.f_buf.length + a_1.length) * 1 ≤ 140737488355328 then some ((a_1.length : Int), Value.nilIface, ⟨L_0.f_buf ++ a_1⟩) else none)
theorem strings_Builder_Write_ok {p_0 : Value} {L_0 : O_Bld} {a_1 : List (UInt8)} {r : Int × Value × O_Bld} (hF : strings_Builder_Write L_0 a_1 = some r) : CallOk Tryd.prog KG 87 [(eqVP p_0), (slVP bC a_1)] [(Bld_e p_0 (some L_0))] (fun _ => [Bld_e p_0 (some r.2.2)]) (tupVP [(intVP .i64 r.1), (eqVP r.2.1)]) := by
  refine CallOk.intro 19 Tryd.func87 rfl Tryd.ntmps87 (Nat.le_of_ble_eq_true rfl) ?_
  intro c a w hG hn h
  unfold strings_Builder_Write at hF
  change SatL c [.slot 0 (eqVP p_0), .slot 1 (slVP bC a_1), .res (Bld_e p_0 (some L_0))] a w at h
  obtain ⟨h_0_1, h⟩ := h.ex 2 rfl
  change SatL c [.slot 0 (eqVP p_0), .slot 1 (slVP bC a_1), .res (Bld_o p_0 h_0_1 (some L_0))] a w at h
  have hp := h.isp 2 rfl (fun Φ f w q => Bld_lp Φ f w q)
  replace h := h.slotc 0 rfl (V' := lpVP p_0 0) (fun _ _ h => eq_lp h hp)
  replace h := h.sep (R := lb p_0 143 [one (selfVP p_0), one (eqVP h_0_1)]) (S := (acc h_0_1 5 1 bC L_0.f_buf)) 2 rfl
  replace h := h.sub [0, 1, 2, 3] (by rfl)
  change SatL c [.slot 0 (lpVP p_0 0), .slot 1 (slVP bC a_1), .res (lb p_0 143 [one (selfVP p_0), one (eqVP h_0_1)]), .res (acc h_0_1 5 1 bC L_0.f_buf)] a w at h
  refine wp_seq ?_
  refine region_do (n := 19) [.slot 4 100000 100000 (fun _ _ => (intVP .i64 0)),
      .slot 5 100000 100000 (fun _ _ => (eqVP Value.nilIface))] [0, 1] [⟨[], [], [4], [], some 4⟩, ⟨[], [], [5], [0], some 5⟩] [0, 1, 2, 3] mixed hn hG h (by kernel_rfl) ?_ ?_
  · exact ⟨⟨rfl, fun β => (GOk.plain (op_assign (opc (ic (by decide)))) rfl)⟩, ⟨rfl, fun β => (GOk.plain (op_assign (opc (ec _))) rfl)⟩, trivial⟩
  clear h
  intro β a w h
  change SatL c [.slot 0 (lpVP p_0 0), .slot 1 (slVP bC a_1), .res (lb p_0 143 [one (selfVP p_0), one (eqVP h_0_1)]), .res (acc h_0_1 5 1 bC L_0.f_buf)] a w at h
  clear β
  show Code.wp Tryd.prog _ _ a w
  refine wp_seq ?_
  refine region_do (n := 19) [.slot 6 100000 100000 (fun _ _ => (lpVP p_0 0)),
      .slot 7 100000 100000 (fun _ _ => (tupVP [])),
      .res 100000 100000 (fun _ _ => (lb p_0 143 [one (selfVP p_0), one (eqVP h_0_1)]))] [0, 1, 1] [⟨[0], [], [4], [], some 6⟩, ⟨[4], [2], [5, 6], [0], some 7⟩] [0, 1, 3, 6] mixed hn hG h (by kernel_rfl) ?_ ?_
  · exact ⟨⟨rfl, fun β => (GOk.plain (op_move (opt 0 rfl)) rfl)⟩, ⟨rfl, fun β => (GOk.plain (op_call Tryd.call100 copyCheck_ok ⟨(lp_eqo 0 rfl), trivial⟩) rfl)⟩, trivial⟩
  clear h
  intro β a w h
  change SatL c [.slot 0 (lpVP p_0 0), .slot 1 (slVP bC a_1), .res (acc h_0_1 5 1 bC L_0.f_buf), .res (lb p_0 143 [one (selfVP p_0), one (eqVP h_0_1)])] a w at h
  clear β
  show Code.wp Tryd.prog _ _ a w
  refine wp_seq ?_
  obtain ⟨hv1, hF⟩ := ite_some hF
  refine region_do (n := 19) [.slot 8 100000 100000 (fun _ _ => (lpVP p_0 0)),
      .slot 9 100000 100000 (fun _ _ => (lpVP p_0 0)),
      .slot 10 100000 100000 (fun _ _ => (lpVP p_0 0)),
      .slot 11 100000 100000 (fun _ _ => (lpVP p_0 1)),
      .slot 12 100000 100000 (fun _ _ => (eqVP h_0_1)),
      .slot 13 100000 100000 (fun _ _ => (slVP bC a_1)),
      .slot 14 6 100000 (fun v1_ _ => (eqVP v1_)),
      .res 6 100000 (fun v1_ _ => (acc (v1_) 5 1 bC (L_0.f_buf ++ a_1))),
      .slot 15 100000 100000 (fun _ _ => (lpVP p_0 0)),
      .slot 16 100000 100000 (fun _ _ => (lpVP p_0 1)),
      .res 6 100000 (fun v1_ _ => (lb p_0 143 [one (selfVP p_0), one (eqVP (v1_))]))] [0, 1, 2, 3, 4, 5, 6, 6, 7, 8, 9] [⟨[0], [], [4], [], some 8⟩, ⟨[0], [], [5], [0], some 9⟩, ⟨[5], [], [6], [0, 1], some 10⟩, ⟨[6], [], [7], [0, 1, 2], some 11⟩, ⟨[7, 3], [], [8], [0, 1, 2, 3], some 12⟩, ⟨[1], [], [9], [0, 1, 2, 3, 4], some 13⟩, ⟨[8, 9], [2], [10, 11], [0, 1, 2, 3, 4, 5], some 14⟩, ⟨[4], [], [12], [0, 1, 2, 3, 4, 5, 6], some 15⟩, ⟨[12], [], [13], [0, 1, 2, 3, 4, 5, 6, 7], some 16⟩, ⟨[13, 10, 11], [3], [14], [0, 1, 2, 3, 4, 5, 6, 7, 8], none⟩] [1, 14, 11] mixed hn hG h (by kernel_rfl) ?_ ?_
  · exact ⟨⟨rfl, fun β => (GOk.plain (op_move (opt 0 rfl)) rfl)⟩, ⟨rfl, fun β => (GOk.plain (op_move (opt 0 rfl)) rfl)⟩, ⟨rfl, fun β => (GOk.plain (op_nilCheck (opt 0 rfl) (ptr_lp _ _)) rfl)⟩, ⟨rfl, fun β => (GOk.plain (op_fieldAddr_lbm (p := p_0) (n := 1) 0 1 Tryd.underlying143 rfl Tryd.sizeOf129 (by decide) (opt 0 rfl) rfl) rfl)⟩, ⟨rfl, fun β => (GOk.plain (op_load_lb1 [one (selfVP p_0)] [] 1 Tryd.isAgg129 (opt 0 rfl) rfl rfl) rfl)⟩, ⟨rfl, fun β => (GOk.plain (op_move (opt 0 rfl)) rfl)⟩, ⟨rfl, fun β => (GOk.plain (op_append (i := Tryd.t5) Tryd.underlying129 Tryd.type5 rfl lens_bC (by decide) rfl (opt 0 rfl) (opt 1 rfl) hv1) rfl)⟩, ⟨rfl, fun β => (GOk.plain (op_nilCheck (opt 0 rfl) (ptr_lp _ _)) rfl)⟩, ⟨rfl, fun β => (GOk.plain (op_fieldAddr_lbm (p := p_0) (n := 1) 0 1 Tryd.underlying143 rfl Tryd.sizeOf129 (by decide) (opt 0 rfl) rfl) rfl)⟩, ⟨rfl, fun β => (GOk.plain (op_store_lb [one (selfVP p_0)] [one (eqVP h_0_1)] [] [one (eqVP ((β 6)))] Tryd.sizeOf129 (opt 0 rfl) (opone 1 2 rfl rfl acc_one) (cells_h _) rfl rfl rfl) rfl)⟩, trivial⟩
  clear h
  intro β a w h
  change SatL c [.slot 1 (slVP bC a_1), .res (lb p_0 143 [one (selfVP p_0), one (eqVP (β 6))]), .res (acc (β 6) 5 1 bC (L_0.f_buf ++ a_1))] a w at h
  generalize β 6 = p2 at h
  clear β
  show Code.wp Tryd.prog _ _ a w
  refine wp_seq ?_
  refine region_do (n := 19) [.slot 17 100000 100000 (fun _ _ => (slVP bC a_1)),
      .slot 18 100000 100000 (fun _ _ => (intVP .i64 (a_1.length : Int))),
      .slot 4 100000 100000 (fun _ _ => (intVP .i64 (a_1.length : Int))),
      .slot 5 100000 100000 (fun _ _ => (eqVP Value.nilIface))] [0, 1, 2, 3] [⟨[0], [], [3], [], some 17⟩, ⟨[3], [], [4], [0], some 18⟩, ⟨[4], [], [5], [0, 1], some 4⟩, ⟨[], [], [6], [0, 1, 2], some 5⟩] [5, 6, 1, 2] mixed hn hG h (by kernel_rfl) ?_ ?_
  · exact ⟨⟨rfl, fun β => (GOk.plain (op_move (opt 0 rfl)) rfl)⟩, ⟨rfl, fun β => (GOk.plain (op_len_sl Tryd.underlying129 (opt 0 rfl)) rfl)⟩, ⟨rfl, fun β => (GOk.plain (op_assign (opt 0 rfl)) rfl)⟩, ⟨rfl, fun β => (GOk.plain (op_assign (opc (ec _))) rfl)⟩, trivial⟩
  clear h
  intro β a w h
  change SatL c [.slot 4 (intVP .i64 (a_1.length : Int)), .slot 5 (eqVP Value.nilIface), .res (lb p_0 143 [one (selfVP p_0), one (eqVP p2)]), .res (acc p2 5 1 bC (L_0.f_buf ++ a_1))] a w at h
  clear β
  show Code.wp Tryd.prog _ _ a w
  refine wp_ret ?_
  replace h := h.unsep 2 3 rfl rfl (by decide)
  replace h := h.conv 2 rfl (R' := Bld_e p_0 (some ⟨L_0.f_buf ++ a_1⟩)) (Bld_packo (v1 := p2) (o := (some ⟨L_0.f_buf ++ a_1⟩)))
  replace h := h.sub [0, 1, 2] (by rfl)
  change SatL c [.slot 4 (intVP .i64 (a_1.length : Int)), .slot 5 (eqVP Value.nilIface), .res (Bld_e p_0 (some ⟨L_0.f_buf ++ a_1⟩))] a w at h
  obtain rfl := Option.some.inj hF
  exact ⟨.inl rfl, retn h (rs := [.tmp 4, .tmp 5]) (Vs := [(intVP .i64 (a_1.length : Int)), (eqVP Value.nilIface)]) Tryd.results87 (by decide) ⟨(r_tmp 0 rfl), (r_tmp 1 rfl), trivial⟩ [2] [(Bld_e p_0 (some ⟨L_0.f_buf ++ a_1⟩))] rfl rfl rfl⟩

def lamport_pair.b1 (a_1 : List (List UInt8)) (x10 : Int) (x11 : O_Bld) : Option (Flow ((List UInt8) × (Option O_Log)) (Int × O_Bld)) := (if (decide (x10 < (64 : Int))) = true then (if (0 : Int) ≤ x10 ∧ x10 < 64 then ((strings_Builder_Write x11 (((a_1.getD x10.toNat default).take (32 : Int).toNat).drop (0 : Int).toNat)).bind fun r21 => some (.cont (IntKind.wrap .i64 (x10 + 1), r21.2.2))) else none) else some (.brk (x10, x11)))
def lamport_pair (L_0 : Option O_Log) (a_1 : List (List UInt8)) : Option ((List UInt8) × (Option O_Log)) := ((loopN (fun s : Int × O_Bld => lamport_pair.b1 a_1 s.1 s.2) ((64 - 0 : Int).toNat + 2) (0, ⟨[]⟩)).bind fun cr => match cr with | .ret r => some r | .next (y26, y27) => ((strings_Builder_String y27).bind fun r28 => ((digest_Log_Of L_0 3 [r28]).bind fun r29 => some (r29.1, r29.2))))
theorem lamport_pair_ok {p_0 : Value} {L_0 : Option O_Log} {a_1 : List (List UInt8)} {r : (List UInt8) × (Option O_Log)} (hF : lamport_pair L_0 a_1 = some r) : CallOk Tryd.prog KG 70 [(eqVP p_0), (aggVP [arrCk 64 32 (dC 32) (lens_dC 32) a_1])] [(Log_e p_0 L_0)] (fun _ => [Log_e p_0 r.2]) (aggVP [bytesCk 32 r.1]) := by
  refine CallOk.intro 19 Tryd.func70 rfl Tryd.ntmps70 (Nat.le_of_ble_eq_true rfl) ?_
  intro c a w hG hn h
  unfold lamport_pair at hF
  change SatL c [.slot 0 (eqVP p_0), .slot 1 (aggVP [arrCk 64 32 (dC 32) (lens_dC 32) a_1]), .res (Log_e p_0 L_0)] a w at h
  refine wp_seq ?_
  refine region_do (n := 19) [.slot 3 0 100000 (fun v1_ _ => (lpVP v1_ 0)),
      .res 0 100000 (fun v1_ _ => (lb (v1_) 122 [arrCk 64 32 (dC 32) (lens_dC 32) a_1])),
      .slot 4 1 100000 (fun v1_ _ => (lpVP v1_ 0)),
      .res 1 100000 (fun v1_ _ => (lb (v1_) 23 [bytesCk 32 (List.replicate 32 0)]))] [0, 0, 1, 1] [⟨[1], [], [3, 4], [], some 3⟩, ⟨[], [], [5, 6], [0], some 4⟩] [0, 3, 5, 2, 4, 6] mixed hn hG h (by kernel_rfl) ?_ ?_
  · exact ⟨⟨rfl, fun β => (GOk.plain (op_box (opt 0 rfl) (cells_agg _)) rfl)⟩, ⟨rfl, fun β => (GOk.plain (op_alloc Tryd.zeroValue23 z23) rfl)⟩, trivial⟩
  clear h
  intro β a w h
  change SatL c [.slot 0 (eqVP p_0), .slot 3 (lpVP (β 0) 0), .slot 4 (lpVP (β 1) 0), .res (Log_e p_0 L_0), .res (lb (β 0) 122 [arrCk 64 32 (dC 32) (lens_dC 32) a_1]), .res (lb (β 1) 23 [bytesCk 32 (List.replicate 32 0)])] a w at h
  generalize β 0 = p1 at h
  generalize β 1 = p2 at h
  clear β
  show Code.wp Tryd.prog _ _ a w
  refine wp_seq ?_
  refine region_do (n := 19) [.slot 5 0 100000 (fun v1_ _ => (lpVP v1_ 0)),
      .res 0 100000 (fun v1_ _ => (lb (v1_) 143 [one (eqVP (.pointer none)), one (eqVP (.slice none 0 0))]))] [0, 0] [⟨[], [], [6, 7], [], some 5⟩] [0, 1, 2, 6, 3, 4, 5, 7] mixed hn hG h (by kernel_rfl) ?_ ?_
  · exact ⟨⟨rfl, fun β => (GOk.plain (op_alloc Tryd.zeroValue143 zo143) rfl)⟩, trivial⟩
  clear h
  intro β a w h
  change SatL c [.slot 0 (eqVP p_0), .slot 3 (lpVP p1 0), .slot 4 (lpVP p2 0), .slot 5 (lpVP (β 0) 0), .res (Log_e p_0 L_0), .res (lb p1 122 [arrCk 64 32 (dC 32) (lens_dC 32) a_1]), .res (lb p2 23 [bytesCk 32 (List.replicate 32 0)]), .res (lb (β 0) 143 [one (eqVP (.pointer none)), one (eqVP (.slice none 0 0))])] a w at h
  generalize β 0 = p3 at h
  clear β
  show Code.wp Tryd.prog _ _ a w
  refine wp_seq ?_
  refine wp_seq ?_
  refine region_do (n := 19) [.slot 8 100000 100000 (fun _ _ => (aggVP [arrCk 64 32 (dC 32) (lens_dC 32) a_1])),
      .slot 9 100000 100000 (fun _ _ => (intVP .i64 0))] [0, 1] [⟨[1, 5], [], [8], [], some 8⟩, ⟨[], [], [9], [0], some 9⟩] [0, 2, 3, 8, 9, 4, 6, 7] mixed hn hG h (by kernel_rfl) ?_ ?_
  · exact ⟨⟨rfl, fun β => (GOk.plain (op_load_lb [] [arrCk 64 32 (dC 32) (lens_dC 32) a_1] [] 1 Tryd.isAgg122 Tryd.sizeOf122 (opt 0 rfl) rfl rfl rfl) rfl)⟩, ⟨rfl, fun β => (GOk.plain (op_move (opc (ic (by decide)))) rfl)⟩, trivial⟩
  clear h
  intro β a w h
  change SatL c [.slot 0 (eqVP p_0), .slot 4 (lpVP p2 0), .slot 5 (lpVP p3 0), .slot 8 (aggVP [arrCk 64 32 (dC 32) (lens_dC 32) a_1]), .slot 9 (intVP .i64 0), .res (Log_e p_0 L_0), .res (lb p2 23 [bytesCk 32 (List.replicate 32 0)]), .res (lb p3 143 [one (eqVP (.pointer none)), one (eqVP (.slice none 0 0))])] a w at h
  clear β
  show Code.wp Tryd.prog _ _ a w
  refine wp_block ?_
  replace h := h.conv 7 rfl Bld_new
  replace h := h.slotc 2 rfl (fun _ _ h => lp_eqv h)
  replace h := h.sub [0, 1, 2, 3, 4, 5, 6, 7] (by rfl)
  change SatL c [.slot 0 (eqVP p_0), .slot 4 (lpVP p2 0), .slot 5 (eqVP p3), .slot 8 (aggVP [arrCk 64 32 (dC 32) (lens_dC 32) a_1]), .slot 9 (intVP .i64 0), .res (Log_e p_0 L_0), .res (lb p2 23 [bytesCk 32 (List.replicate 32 0)]), .res (Bld_e p3 (some ⟨[]⟩))] a w at h
  obtain ⟨cr22, hl23, hF⟩ := bind_some hF
  refine wp_mono (wp_loopN (R := (List UInt8) × (Option O_Log)) (S := Int × O_Bld) (fun s a w => SatL c [.slot 0 (eqVP p_0), .slot 4 (lpVP p2 0), .slot 5 (eqVP p3), .slot 8 (aggVP [arrCk 64 32 (dC 32) (lens_dC 32) a_1]), .slot 9 (intVP .i64 s.1), .res (Log_e p_0 L_0), .res (lb p2 23 [bytesCk 32 (List.replicate 32 0)]), .res (Bld_e p3 (some s.2))] a w) (fun res e a w => match res with | .next s => e = .exit 0 ∧ SatL c [.slot 0 (eqVP p_0), .slot 4 (lpVP p2 0), .slot 5 (eqVP p3), .res (Log_e p_0 L_0), .res (lb p2 23 [bytesCk 32 (List.replicate 32 0)]), .res (Bld_e p3 (some s.2))] a w | .ret r => e = .ret ∧ RetOk Tryd.prog Tryd.f70 c (aggVP [bytesCk 32 r.1]) (fun _ => [Log_e p_0 r.2]) a w) ?_ _ (0, ⟨[]⟩) _ _ _ (h.sub [0, 1, 2, 3, 4, 5, 6, 7] (by rfl)) hl23) ?_
  · clear hl23 hF h
    intro s a w o h hF
    obtain ⟨x10, x11⟩ := s
    change lamport_pair.b1 a_1 x10 x11 = some o at hF
    unfold lamport_pair.b1 at hF
    change SatL c [.slot 0 (eqVP p_0), .slot 4 (lpVP p2 0), .slot 5 (eqVP p3), .slot 8 (aggVP [arrCk 64 32 (dC 32) (lens_dC 32) a_1]), .slot 9 (intVP .i64 x10), .res (Log_e p_0 L_0), .res (lb p2 23 [bytesCk 32 (List.replicate 32 0)]), .res (Bld_e p3 (some x11))] a w at h
    refine wp_seq ?_
    refine region_do (n := 19) [.slot 10 100000 100000 (fun _ _ => (boolVP (decide (x10 < (64 : Int)))))] [0] [⟨[4], [], [8], [], some 10⟩] [0, 1, 2, 3, 4, 8, 5, 6, 7] mixed hn hG h (by kernel_rfl) ?_ ?_
    · exact ⟨⟨rfl, fun β => (GOk.plain (op_bin bin_lss (opt 0 rfl) (opc (ic (by decide)))) rfl)⟩, trivial⟩
    clear h
    intro β a w h
    change SatL c [.slot 0 (eqVP p_0), .slot 4 (lpVP p2 0), .slot 5 (eqVP p3), .slot 8 (aggVP [arrCk 64 32 (dC 32) (lens_dC 32) a_1]), .slot 9 (intVP .i64 x10), .slot 10 (boolVP (decide (x10 < (64 : Int)))), .res (Log_e p_0 L_0), .res (lb p2 23 [bytesCk 32 (List.replicate 32 0)]), .res (Bld_e p3 (some x11))] a w at h
    clear β
    show Code.wp Tryd.prog _ _ a w
    refine wp_seq ?_
    refine cond_L h 5 rfl (fun hb18 => ?_) (fun hb18 => ?_)
    · replace hF := tt_of hb18 hF
      replace h := h.sub [0, 1, 2, 3, 4, 6, 7, 8] (by rfl)
      change SatL c [.slot 0 (eqVP p_0), .slot 4 (lpVP p2 0), .slot 5 (eqVP p3), .slot 8 (aggVP [arrCk 64 32 (dC 32) (lens_dC 32) a_1]), .slot 9 (intVP .i64 x10), .res (Log_e p_0 L_0), .res (lb p2 23 [bytesCk 32 (List.replicate 32 0)]), .res (Bld_e p3 (some x11))] a w at h
      refine wp_skip ?_
      show Code.wp Tryd.prog _ _ a w
      refine wp_seq ?_
      refine wp_block ?_
      refine wp_seq ?_
      obtain ⟨hv19, hF⟩ := ite_some hF
      refine region_do (n := 19) [.slot 11 100000 100000 (fun _ _ => (aggVP [bytesCk 32 (a_1.getD x10.toNat default)])),
      .slot 7 1 100000 (fun v1_ _ => (lpVP v1_ 0)),
      .res 1 100000 (fun v1_ _ => (lb (v1_) 23 [bytesCk 32 (List.replicate 32 0)])),
      .res 1 100000 (fun v1_ _ => (lb (v1_) 23 [bytesCk 32 (a_1.getD x10.toNat default)]))] [0, 1, 1, 2] [⟨[3, 4], [], [8], [], some 11⟩, ⟨[], [], [9, 10], [0], some 7⟩, ⟨[9, 8], [10], [11], [0, 1], none⟩] [0, 1, 2, 9, 3, 4, 5, 6, 7, 11] mixed hn hG h (by kernel_rfl) ?_ ?_
      · exact ⟨⟨rfl, fun β => (GOk.plain (op_index_aggA (c := (dC 32)) Tryd.underlying122 Tryd.sizeOf23 Tryd.isAgg23 (opt 0 rfl) (opt 1 rfl) hv19) rfl)⟩, ⟨rfl, fun β => (GOk.plain (op_alloc Tryd.zeroValue23 z23) rfl)⟩, ⟨rfl, fun β => (GOk.plain (op_store_lb [] [bytesCk 32 (List.replicate 32 0)] [] [bytesCk 32 (a_1.getD x10.toNat default)] Tryd.sizeOf23 (opt 0 rfl) (opt 1 rfl) (cells_agg _) rfl rfl rfl) rfl)⟩, trivial⟩
      clear h
      intro β a w h
      change SatL c [.slot 0 (eqVP p_0), .slot 4 (lpVP p2 0), .slot 5 (eqVP p3), .slot 7 (lpVP (β 1) 0), .slot 8 (aggVP [arrCk 64 32 (dC 32) (lens_dC 32) a_1]), .slot 9 (intVP .i64 x10), .res (Log_e p_0 L_0), .res (lb p2 23 [bytesCk 32 (List.replicate 32 0)]), .res (Bld_e p3 (some x11)), .res (lb (β 1) 23 [bytesCk 32 (a_1.getD x10.toNat default)])] a w at h
      generalize β 1 = p20 at h
      clear β
      show Code.wp Tryd.prog _ _ a w
      replace h := h.publish 9 rfl
      replace h := h.factslot 3 9 rfl rfl
      replace h := h.sub [0, 1, 2, 3, 4, 5, 6, 7, 8] (by rfl)
      change SatL c [.slot 0 (eqVP p_0), .slot 4 (lpVP p2 0), .slot 5 (eqVP p3), .slot 7 (ppVP [bytesCk 32 (a_1.getD x10.toNat default)]), .slot 8 (aggVP [arrCk 64 32 (dC 32) (lens_dC 32) a_1]), .slot 9 (intVP .i64 x10), .res (Log_e p_0 L_0), .res (lb p2 23 [bytesCk 32 (List.replicate 32 0)]), .res (Bld_e p3 (some x11))] a w at h
      obtain ⟨r21, hr21, hF⟩ := bind_some hF
      refine region_do (n := 19) [.slot 12 100000 100000 (fun _ _ => (slVP bC (((a_1.getD x10.toNat default).take (32 : Int).toNat).drop (0 : Int).toNat))),
      .slot 13 100000 100000 (fun _ _ => (tupVP [(intVP .i64 r21.1), (eqVP r21.2.1)])),
      .res 100000 100000 (fun _ _ => (Bld_e p3 (some r21.2.2)))] [0, 1, 1] [⟨[3], [], [9], [], some 12⟩, ⟨[2, 9], [8], [10, 11], [0], some 13⟩] [0, 1, 2, 4, 5, 6, 7, 11] mixed hn hG h (by kernel_rfl) ?_ ?_
      · exact ⟨⟨rfl, fun β => (GOk.plain (op_slice_ppB (a := 0) (b := 32) Tryd.underlying23 Tryd.sizeOf5 (opt 0 rfl) rfl rfl (by decide)) rfl)⟩, ⟨rfl, fun β => (GOk.plain (op_call Tryd.call87 (strings_Builder_Write_ok hr21) ⟨(opt 0 rfl), (opt 1 rfl), trivial⟩) rfl)⟩, trivial⟩
      clear h
      intro β a w h
      change SatL c [.slot 0 (eqVP p_0), .slot 4 (lpVP p2 0), .slot 5 (eqVP p3), .slot 8 (aggVP [arrCk 64 32 (dC 32) (lens_dC 32) a_1]), .slot 9 (intVP .i64 x10), .res (Log_e p_0 L_0), .res (lb p2 23 [bytesCk 32 (List.replicate 32 0)]), .res (Bld_e p3 (some r21.2.2))] a w at h
      clear β
      show Code.wp Tryd.prog _ _ a w
      refine region_do (n := 19) [.slot 14 100000 100000 (fun _ _ => (intVP .i64 (IntKind.wrap .i64 (x10 + 1)))),
      .slot 9 100000 100000 (fun _ _ => (intVP .i64 (IntKind.wrap .i64 (x10 + 1))))] [0, 1] [⟨[4], [], [8], [], some 14⟩, ⟨[8], [4], [9], [0], some 9⟩] [0, 1, 2, 3, 9, 5, 6, 7] mixed hn hG h (by kernel_rfl) ?_ ?_
      · exact ⟨⟨rfl, fun β => (GOk.plain (op_bin bin_add (opt 0 rfl) (opc (ic (by decide)))) rfl)⟩, ⟨rfl, fun β => (GOk.drop _ (GOk.plain (op_move (opt 0 rfl)) rfl))⟩, trivial⟩
      clear h
      intro β a w h
      change SatL c [.slot 0 (eqVP p_0), .slot 4 (lpVP p2 0), .slot 5 (eqVP p3), .slot 8 (aggVP [arrCk 64 32 (dC 32) (lens_dC 32) a_1]), .slot 9 (intVP .i64 (IntKind.wrap .i64 (x10 + 1))), .res (Log_e p_0 L_0), .res (lb p2 23 [bytesCk 32 (List.replicate 32 0)]), .res (Bld_e p3 (some r21.2.2))] a w at h
      clear β
      obtain rfl := Option.some.inj hF
      exact ⟨rfl, h.sub [0, 1, 2, 3, 4, 5, 6, 7] (by rfl)⟩
    · replace hF := ff_of hb18 hF
      replace h := h.sub [0, 1, 2, 3, 4, 6, 7, 8] (by rfl)
      change SatL c [.slot 0 (eqVP p_0), .slot 4 (lpVP p2 0), .slot 5 (eqVP p3), .slot 8 (aggVP [arrCk 64 32 (dC 32) (lens_dC 32) a_1]), .slot 9 (intVP .i64 x10), .res (Log_e p_0 L_0), .res (lb p2 23 [bytesCk 32 (List.replicate 32 0)]), .res (Bld_e p3 (some x11))] a w at h
      refine wp_exit ?_
      obtain rfl := Option.some.inj hF
      exact ⟨exit_ne _, rfl, h.sub [0, 1, 2, 5, 6, 7] (by rfl)⟩
  · clear hl23
    intro e a w hq
    cases cr22 with
    | ret r24 =>
      obtain ⟨rfl, hq⟩ := hq
      obtain rfl := Option.some.inj hF
      exact ⟨.inl rfl, hq⟩
    | next s25 =>
      obtain ⟨y26, y27⟩ := s25
      obtain ⟨rfl, h⟩ := hq
      change SatL c [.slot 0 (eqVP p_0), .slot 4 (lpVP p2 0), .slot 5 (eqVP p3), .res (Log_e p_0 L_0), .res (lb p2 23 [bytesCk 32 (List.replicate 32 0)]), .res (Bld_e p3 (some y27))] a w at h
      refine inBlock_at ?_
      show Code.wp Tryd.prog _ _ a w
      refine wp_seq ?_
      obtain ⟨r28, hr28, hF⟩ := bind_some hF
      obtain ⟨r29, hr29, hF⟩ := bind_some hF
      refine region_do (n := 19) [.slot 15 100000 100000 (fun _ _ => (eqVP p_0)),
      .slot 16 100000 100000 (fun _ _ => (strVP r28)),
      .slot 17 100000 100000 (fun _ _ => (slVP strC [r28])),
      .slot 18 100000 100000 (fun _ _ => (aggVP [bytesCk 32 r29.1])),
      .res 100000 100000 (fun _ _ => (Log_e p_0 r29.2)),
      .res 100000 100000 (fun _ _ => (lb p2 23 [bytesCk 32 r29.1]))] [0, 1, 2, 3, 3, 4] [⟨[0], [], [6], [], some 15⟩, ⟨[2], [5], [7], [0], some 16⟩, ⟨[7], [], [8], [0, 1], some 17⟩, ⟨[6, 8], [3], [9, 10], [0, 1, 2], some 18⟩, ⟨[1, 9], [4], [11], [0, 1, 2, 3], none⟩] [1, 11, 10] mixed hn hG h (by kernel_rfl) ?_ ?_
      · exact ⟨⟨rfl, fun β => (GOk.plain (op_move (opt 0 rfl)) rfl)⟩, ⟨rfl, fun β => (GOk.plain (op_call Tryd.call88 (strings_Builder_String_ok hr28) ⟨(opt 0 rfl), trivial⟩) rfl)⟩, ⟨rfl, fun β => (GOk.plain (op_lit (xs := [.tmp 16]) (ys := [r28]) _ rfl Tryd.underlying101 Tryd.sizeOf9 Tryd.zeroValue9 rfl rfl (by decide) (by decide) ⟨⟨_, (opt 0 rfl), (cells_one (one_str _))⟩, trivial⟩ lens_strC) rfl)⟩, ⟨rfl, fun β => (GOk.plain (op_call Tryd.call62 (digest_Log_Of_ok hr29) ⟨(opt 0 rfl), (opc (ic (by decide))), (opt 1 rfl), trivial⟩) rfl)⟩, ⟨rfl, fun β => (GOk.plain (op_store_lb [] [bytesCk 32 (List.replicate 32 0)] [] [bytesCk 32 r29.1] Tryd.sizeOf23 (opt 0 rfl) (opt 1 rfl) (cells_agg _) rfl rfl rfl) rfl)⟩, trivial⟩
      clear h
      intro β a w h
      change SatL c [.slot 4 (lpVP p2 0), .res (lb p2 23 [bytesCk 32 r29.1]), .res (Log_e p_0 r29.2)] a w at h
      clear β
      show Code.wp Tryd.prog _ _ a w
      refine wp_ret ?_
      obtain rfl := Option.some.inj hF
      exact ⟨.inl rfl, ret1 h Tryd.results70 (r_cell 0 1 rfl rfl Tryd.isAgg23 Tryd.sizeOf23 rfl) [2] [(Log_e p_0 r29.2)] rfl rfl rfl⟩

def lamport_Word.b1 (a_1 : List UInt8) (a_2 : Int) (x7 : Int) (x8 : Option O_Log) (x9 : List (List UInt8)) : Option (Flow ((List UInt8) × (Option O_Log)) (Int × (Option O_Log) × (List (List UInt8)))) := (if (decide (x7 < (64 : Int))) = true then ((lamport_Secret x8 a_1 a_2 (IntKind.wrap .i64 (x7.tdiv 2)) (x7.tmod 2)).bind fun r18 => ((lamport_Public r18.2 r18.1).bind fun r19 => (if (0 : Int) ≤ x7 ∧ x7 < 64 then some (.cont (IntKind.wrap .i64 (x7 + 1), r19.2, x9.set x7.toNat r19.1)) else none))) else some (.brk (x7, x8, x9)))
def lamport_Word (L_0 : Option O_Log) (a_1 : List UInt8) (a_2 : Int) : Option ((List UInt8) × (Option O_Log)) := ((loopN (fun s : Int × (Option O_Log) × (List (List UInt8)) => lamport_Word.b1 a_1 a_2 s.1 s.2.1 s.2.2) ((64 - 0 : Int).toNat + 2) (0, L_0, (List.replicate 64 (List.replicate 32 0)))).bind fun cr => match cr with | .ret r => some r | .next (y25, y26, y27) => ((lamport_pair y26 y27).bind fun r28 => some (r28.1, r28.2)))
theorem lamport_Word_ok {p_0 : Value} {L_0 : Option O_Log} {a_1 : List UInt8} {a_2 : Int} {r : (List UInt8) × (Option O_Log)} (hF : lamport_Word L_0 a_1 a_2 = some r) : CallOk Tryd.prog KG 48 [(eqVP p_0), (aggVP [bytesCk 32 a_1]), (intVP .i64 a_2)] [(Log_e p_0 L_0)] (fun _ => [Log_e p_0 r.2]) (aggVP [bytesCk 32 r.1]) := by
  refine CallOk.intro 28 Tryd.func48 rfl Tryd.ntmps48 (Nat.le_of_ble_eq_true rfl) ?_
  intro c a w hG hn h
  unfold lamport_Word at hF
  change SatL c [.slot 0 (eqVP p_0), .slot 1 (aggVP [bytesCk 32 a_1]), .slot 2 (intVP .i64 a_2), .res (Log_e p_0 L_0)] a w at h
  refine wp_seq ?_
  refine region_do (n := 28) [.slot 4 0 100000 (fun v1_ _ => (lpVP v1_ 0)),
      .res 0 100000 (fun v1_ _ => (lb (v1_) 23 [bytesCk 32 a_1])),
      .slot 6 1 100000 (fun v1_ _ => (lpVP v1_ 0)),
      .res 1 100000 (fun v1_ _ => (lb (v1_) 23 [bytesCk 32 (List.replicate 32 0)]))] [0, 0, 1, 1] [⟨[1], [], [4, 5], [], some 4⟩, ⟨[], [], [6, 7], [0], some 6⟩] [0, 2, 4, 6, 3, 5, 7] mixed hn hG h (by kernel_rfl) ?_ ?_
  · exact ⟨⟨rfl, fun β => (GOk.plain (op_box (opt 0 rfl) (cells_agg _)) rfl)⟩, ⟨rfl, fun β => (GOk.plain (op_alloc Tryd.zeroValue23 z23) rfl)⟩, trivial⟩
  clear h
  intro β a w h
  change SatL c [.slot 0 (eqVP p_0), .slot 2 (intVP .i64 a_2), .slot 4 (lpVP (β 0) 0), .slot 6 (lpVP (β 1) 0), .res (Log_e p_0 L_0), .res (lb (β 0) 23 [bytesCk 32 a_1]), .res (lb (β 1) 23 [bytesCk 32 (List.replicate 32 0)])] a w at h
  generalize β 0 = p1 at h
  generalize β 1 = p2 at h
  clear β
  show Code.wp Tryd.prog _ _ a w
  refine wp_seq ?_
  refine region_do (n := 28) [.slot 7 0 100000 (fun v1_ _ => (lpVP v1_ 0)),
      .res 0 100000 (fun v1_ _ => (lb (v1_) 122 [arrCk 64 32 (dC 32) (lens_dC 32) (List.replicate 64 (List.replicate 32 0))]))] [0, 0] [⟨[], [], [7, 8], [], some 7⟩] [0, 1, 2, 3, 7, 4, 5, 6, 8] mixed hn hG h (by kernel_rfl) ?_ ?_
  · exact ⟨⟨rfl, fun β => (GOk.plain (op_alloc Tryd.zeroValue122 z122) rfl)⟩, trivial⟩
  clear h
  intro β a w h
  change SatL c [.slot 0 (eqVP p_0), .slot 2 (intVP .i64 a_2), .slot 4 (lpVP p1 0), .slot 6 (lpVP p2 0), .slot 7 (lpVP (β 0) 0), .res (Log_e p_0 L_0), .res (lb p1 23 [bytesCk 32 a_1]), .res (lb p2 23 [bytesCk 32 (List.replicate 32 0)]), .res (lb (β 0) 122 [arrCk 64 32 (dC 32) (lens_dC 32) (List.replicate 64 (List.replicate 32 0))])] a w at h
  generalize β 0 = p3 at h
  clear β
  show Code.wp Tryd.prog _ _ a w
  refine wp_seq ?_
  refine wp_seq ?_
  refine region_do (n := 28) [.slot 9 100000 100000 (fun _ _ => (intVP .i64 0))] [0] [⟨[], [], [9], [], some 9⟩] [0, 1, 2, 3, 4, 9, 5, 6, 7, 8] mixed hn hG h (by kernel_rfl) ?_ ?_
  · exact ⟨⟨rfl, fun β => (GOk.plain (op_move (opc (ic (by decide)))) rfl)⟩, trivial⟩
  clear h
  intro β a w h
  change SatL c [.slot 0 (eqVP p_0), .slot 2 (intVP .i64 a_2), .slot 4 (lpVP p1 0), .slot 6 (lpVP p2 0), .slot 7 (lpVP p3 0), .slot 9 (intVP .i64 0), .res (Log_e p_0 L_0), .res (lb p1 23 [bytesCk 32 a_1]), .res (lb p2 23 [bytesCk 32 (List.replicate 32 0)]), .res (lb p3 122 [arrCk 64 32 (dC 32) (lens_dC 32) (List.replicate 64 (List.replicate 32 0))])] a w at h
  clear β
  show Code.wp Tryd.prog _ _ a w
  refine wp_block ?_
  obtain ⟨cr21, hl22, hF⟩ := bind_some hF
  refine wp_mono (wp_loopN (R := (List UInt8) × (Option O_Log)) (S := Int × (Option O_Log) × (List (List UInt8))) (fun s a w => SatL c [.slot 0 (eqVP p_0), .slot 2 (intVP .i64 a_2), .slot 4 (lpVP p1 0), .slot 6 (lpVP p2 0), .slot 7 (lpVP p3 0), .slot 9 (intVP .i64 s.1), .res (Log_e p_0 s.2.1), .res (lb p1 23 [bytesCk 32 a_1]), .res (lb p2 23 [bytesCk 32 (List.replicate 32 0)]), .res (lb p3 122 [arrCk 64 32 (dC 32) (lens_dC 32) s.2.2])] a w) (fun res e a w => match res with | .next s => e = .exit 0 ∧ SatL c [.slot 0 (eqVP p_0), .slot 6 (lpVP p2 0), .slot 7 (lpVP p3 0), .res (Log_e p_0 s.2.1), .res (lb p2 23 [bytesCk 32 (List.replicate 32 0)]), .res (lb p3 122 [arrCk 64 32 (dC 32) (lens_dC 32) s.2.2])] a w | .ret r => e = .ret ∧ RetOk Tryd.prog Tryd.f48 c (aggVP [bytesCk 32 r.1]) (fun _ => [Log_e p_0 r.2]) a w) ?_ _ (0, L_0, (List.replicate 64 (List.replicate 32 0))) _ _ _ (h.sub [0, 1, 2, 3, 4, 5, 6, 7, 8, 9] (by rfl)) hl22) ?_
  · clear hl22 hF h
    intro s a w o h hF
    obtain ⟨x7, x8, x9⟩ := s
    change lamport_Word.b1 a_1 a_2 x7 x8 x9 = some o at hF
    unfold lamport_Word.b1 at hF
    change SatL c [.slot 0 (eqVP p_0), .slot 2 (intVP .i64 a_2), .slot 4 (lpVP p1 0), .slot 6 (lpVP p2 0), .slot 7 (lpVP p3 0), .slot 9 (intVP .i64 x7), .res (Log_e p_0 x8), .res (lb p1 23 [bytesCk 32 a_1]), .res (lb p2 23 [bytesCk 32 (List.replicate 32 0)]), .res (lb p3 122 [arrCk 64 32 (dC 32) (lens_dC 32) x9])] a w at h
    refine wp_seq ?_
    refine region_do (n := 28) [.slot 10 100000 100000 (fun _ _ => (boolVP (decide (x7 < (64 : Int)))))] [0] [⟨[5], [], [10], [], some 10⟩] [0, 1, 2, 3, 4, 5, 10, 6, 7, 8, 9] mixed hn hG h (by kernel_rfl) ?_ ?_
    · exact ⟨⟨rfl, fun β => (GOk.plain (op_bin bin_lss (opt 0 rfl) (opc (ic (by decide)))) rfl)⟩, trivial⟩
    clear h
    intro β a w h
    change SatL c [.slot 0 (eqVP p_0), .slot 2 (intVP .i64 a_2), .slot 4 (lpVP p1 0), .slot 6 (lpVP p2 0), .slot 7 (lpVP p3 0), .slot 9 (intVP .i64 x7), .slot 10 (boolVP (decide (x7 < (64 : Int)))), .res (Log_e p_0 x8), .res (lb p1 23 [bytesCk 32 a_1]), .res (lb p2 23 [bytesCk 32 (List.replicate 32 0)]), .res (lb p3 122 [arrCk 64 32 (dC 32) (lens_dC 32) x9])] a w at h
    clear β
    show Code.wp Tryd.prog _ _ a w
    refine wp_seq ?_
    refine cond_L h 6 rfl (fun hb17 => ?_) (fun hb17 => ?_)
    · replace hF := tt_of hb17 hF
      replace h := h.sub [0, 1, 2, 3, 4, 5, 7, 8, 9, 10] (by rfl)
      change SatL c [.slot 0 (eqVP p_0), .slot 2 (intVP .i64 a_2), .slot 4 (lpVP p1 0), .slot 6 (lpVP p2 0), .slot 7 (lpVP p3 0), .slot 9 (intVP .i64 x7), .res (Log_e p_0 x8), .res (lb p1 23 [bytesCk 32 a_1]), .res (lb p2 23 [bytesCk 32 (List.replicate 32 0)]), .res (lb p3 122 [arrCk 64 32 (dC 32) (lens_dC 32) x9])] a w at h
      refine wp_skip ?_
      show Code.wp Tryd.prog _ _ a w
      refine wp_seq ?_
      refine wp_block ?_
      refine wp_seq ?_
      refine region_do (n := 28) [.slot 11 100000 100000 (fun _ _ => (intVP .i64 x7)),
      .slot 8 100000 100000 (fun _ _ => (intVP .i64 x7))] [0, 1] [⟨[5], [], [10], [], some 11⟩, ⟨[10], [], [11], [0], some 8⟩] [0, 1, 2, 3, 4, 11, 5, 6, 7, 8, 9] mixed hn hG h (by kernel_rfl) ?_ ?_
      · exact ⟨⟨rfl, fun β => (GOk.plain (op_move (opt 0 rfl)) rfl)⟩, ⟨rfl, fun β => (GOk.plain (op_assign (opt 0 rfl)) rfl)⟩, trivial⟩
      clear h
      intro β a w h
      change SatL c [.slot 0 (eqVP p_0), .slot 2 (intVP .i64 a_2), .slot 4 (lpVP p1 0), .slot 6 (lpVP p2 0), .slot 7 (lpVP p3 0), .slot 8 (intVP .i64 x7), .slot 9 (intVP .i64 x7), .res (Log_e p_0 x8), .res (lb p1 23 [bytesCk 32 a_1]), .res (lb p2 23 [bytesCk 32 (List.replicate 32 0)]), .res (lb p3 122 [arrCk 64 32 (dC 32) (lens_dC 32) x9])] a w at h
      clear β
      show Code.wp Tryd.prog _ _ a w
      obtain ⟨r18, hr18, hF⟩ := bind_some hF
      obtain ⟨r19, hr19, hF⟩ := bind_some hF
      obtain ⟨hv20, hF⟩ := ite_some hF
      refine region_do (n := 28) [.slot 12 100000 100000 (fun _ _ => (intVP .i64 x7)),
      .slot 13 100000 100000 (fun _ _ => (eqVP p_0)),
      .slot 14 100000 100000 (fun _ _ => (eqVP p_0)),
      .slot 15 100000 100000 (fun _ _ => (aggVP [bytesCk 32 a_1])),
      .slot 16 100000 100000 (fun _ _ => (intVP .i64 a_2)),
      .slot 17 100000 100000 (fun _ _ => (intVP .i64 x7)),
      .slot 18 100000 100000 (fun _ _ => (intVP .i64 (IntKind.wrap .i64 (x7.tdiv 2)))),
      .slot 19 100000 100000 (fun _ _ => (intVP .i64 x7)),
      .slot 20 100000 100000 (fun _ _ => (intVP .i64 (x7.tmod 2))),
      .slot 21 100000 100000 (fun _ _ => (aggVP [bytesCk 32 r18.1])),
      .res 100000 100000 (fun _ _ => (Log_e p_0 r18.2)),
      .slot 22 100000 100000 (fun _ _ => (aggVP [bytesCk 32 r19.1])),
      .res 100000 100000 (fun _ _ => (Log_e p_0 r19.2)),
      .slot 23 100000 100000 (fun _ _ => (lpVP p3 (0 + x7.toNat * 32))),
      .res 100000 100000 (fun _ _ => (lb p3 122 [arrCk 64 32 (dC 32) (lens_dC 32) (x9.set x7.toNat r19.1)]))] [0, 1, 2, 3, 4, 5, 6, 7, 8, 9, 9, 10, 10, 11, 12] [⟨[5], [], [11], [], some 12⟩, ⟨[0], [], [12], [0], some 13⟩, ⟨[0], [], [13], [0, 1], some 14⟩, ⟨[2, 8], [], [14], [0, 1, 2], some 15⟩, ⟨[1], [], [15], [0, 1, 2, 3], some 16⟩, ⟨[5], [], [16], [0, 1, 2, 3, 4], some 17⟩, ⟨[16], [], [17], [0, 1, 2, 3, 4, 5], some 18⟩, ⟨[5], [], [18], [0, 1, 2, 3, 4, 5, 6], some 19⟩, ⟨[18], [], [19], [0, 1, 2, 3, 4, 5, 6, 7], some 20⟩, ⟨[13, 14, 15, 17, 19], [7], [20, 21], [0, 1, 2, 3, 4, 5, 6, 7, 8], some 21⟩, ⟨[12, 20], [21], [22, 23], [0, 1, 2, 3, 4, 5, 6, 7, 8, 9], some 22⟩, ⟨[4, 11], [], [24], [0, 1, 2, 3, 4, 5, 6, 7, 8, 9, 10], some 23⟩, ⟨[24, 22], [10], [25], [0, 1, 2, 3, 4, 5, 6, 7, 8, 9, 10, 11], none⟩] [0, 1, 2, 3, 4, 6, 8, 9, 25, 23] mixed hn hG h (by kernel_rfl) ?_ ?_
      · exact ⟨⟨rfl, fun β => (GOk.plain (op_move (opt 0 rfl)) rfl)⟩, ⟨rfl, fun β => (GOk.plain (op_move (opt 0 rfl)) rfl)⟩, ⟨rfl, fun β => (GOk.plain (op_move (opt 0 rfl)) rfl)⟩, ⟨rfl, fun β => (GOk.plain (op_load_lb [] [bytesCk 32 a_1] [] 1 Tryd.isAgg23 Tryd.sizeOf23 (opt 0 rfl) rfl rfl rfl) rfl)⟩, ⟨rfl, fun β => (GOk.plain (op_move (opt 0 rfl)) rfl)⟩, ⟨rfl, fun β => (GOk.plain (op_move (opt 0 rfl)) rfl)⟩, ⟨rfl, fun β => (GOk.plain (op_bin (bin_quo (by decide)) (opt 0 rfl) (opc (ic (by decide)))) rfl)⟩, ⟨rfl, fun β => (GOk.plain (op_move (opt 0 rfl)) rfl)⟩, ⟨rfl, fun β => (GOk.plain (op_bin (bin_rem (by decide)) (opt 0 rfl) (opc (ic (by decide)))) rfl)⟩, ⟨rfl, fun β => (GOk.plain (op_call Tryd.call69 (lamport_Secret_ok hr18) ⟨(opt 0 rfl), (opt 1 rfl), (opt 2 rfl), (opt 3 rfl), (opt 4 rfl), trivial⟩) rfl)⟩, ⟨rfl, fun β => (GOk.plain (op_call Tryd.call68 (lamport_Public_ok hr19) ⟨(opt 0 rfl), (opt 1 rfl), trivial⟩) rfl)⟩, ⟨rfl, fun β => (GOk.plain (op_indexAddr_lb Tryd.underlying122 Tryd.sizeOf23 (opt 0 rfl) (opt 1 rfl) hv20) rfl)⟩, ⟨rfl, fun β => (GOk.plain (op_store_lbA (i := x7) [] [] Tryd.sizeOf23 (opt 0 rfl) (opt 1 rfl) rfl hv20) rfl)⟩, trivial⟩
      clear h
      intro β a w h
      change SatL c [.slot 0 (eqVP p_0), .slot 2 (intVP .i64 a_2), .slot 4 (lpVP p1 0), .slot 6 (lpVP p2 0), .slot 7 (lpVP p3 0), .slot 9 (intVP .i64 x7), .res (lb p1 23 [bytesCk 32 a_1]), .res (lb p2 23 [bytesCk 32 (List.replicate 32 0)]), .res (lb p3 122 [arrCk 64 32 (dC 32) (lens_dC 32) (x9.set x7.toNat r19.1)]), .res (Log_e p_0 r19.2)] a w at h
      clear β
      show Code.wp Tryd.prog _ _ a w
      refine region_do (n := 28) [.slot 24 100000 100000 (fun _ _ => (intVP .i64 (IntKind.wrap .i64 (x7 + 1)))),
      .slot 9 100000 100000 (fun _ _ => (intVP .i64 (IntKind.wrap .i64 (x7 + 1))))] [0, 1] [⟨[5], [], [10], [], some 24⟩, ⟨[10], [5], [11], [0], some 9⟩] [0, 1, 2, 3, 4, 11, 6, 7, 8, 9] mixed hn hG h (by kernel_rfl) ?_ ?_
      · exact ⟨⟨rfl, fun β => (GOk.plain (op_bin bin_add (opt 0 rfl) (opc (ic (by decide)))) rfl)⟩, ⟨rfl, fun β => (GOk.drop _ (GOk.plain (op_move (opt 0 rfl)) rfl))⟩, trivial⟩
      clear h
      intro β a w h
      change SatL c [.slot 0 (eqVP p_0), .slot 2 (intVP .i64 a_2), .slot 4 (lpVP p1 0), .slot 6 (lpVP p2 0), .slot 7 (lpVP p3 0), .slot 9 (intVP .i64 (IntKind.wrap .i64 (x7 + 1))), .res (lb p1 23 [bytesCk 32 a_1]), .res (lb p2 23 [bytesCk 32 (List.replicate 32 0)]), .res (lb p3 122 [arrCk 64 32 (dC 32) (lens_dC 32) (x9.set x7.toNat r19.1)]), .res (Log_e p_0 r19.2)] a w at h
      clear β
      obtain rfl := Option.some.inj hF
      exact ⟨rfl, h.sub [0, 1, 2, 3, 4, 5, 9, 6, 7, 8] (by rfl)⟩
    · replace hF := ff_of hb17 hF
      replace h := h.sub [0, 1, 2, 3, 4, 5, 7, 8, 9, 10] (by rfl)
      change SatL c [.slot 0 (eqVP p_0), .slot 2 (intVP .i64 a_2), .slot 4 (lpVP p1 0), .slot 6 (lpVP p2 0), .slot 7 (lpVP p3 0), .slot 9 (intVP .i64 x7), .res (Log_e p_0 x8), .res (lb p1 23 [bytesCk 32 a_1]), .res (lb p2 23 [bytesCk 32 (List.replicate 32 0)]), .res (lb p3 122 [arrCk 64 32 (dC 32) (lens_dC 32) x9])] a w at h
      refine wp_exit ?_
      obtain rfl := Option.some.inj hF
      exact ⟨exit_ne _, rfl, h.sub [0, 3, 4, 6, 8, 9] (by rfl)⟩
  · clear hl22
    intro e a w hq
    cases cr21 with
    | ret r23 =>
      obtain ⟨rfl, hq⟩ := hq
      obtain rfl := Option.some.inj hF
      exact ⟨.inl rfl, hq⟩
    | next s24 =>
      obtain ⟨y25, y26, y27⟩ := s24
      obtain ⟨rfl, h⟩ := hq
      change SatL c [.slot 0 (eqVP p_0), .slot 6 (lpVP p2 0), .slot 7 (lpVP p3 0), .res (Log_e p_0 y26), .res (lb p2 23 [bytesCk 32 (List.replicate 32 0)]), .res (lb p3 122 [arrCk 64 32 (dC 32) (lens_dC 32) y27])] a w at h
      refine inBlock_at ?_
      show Code.wp Tryd.prog _ _ a w
      refine wp_seq ?_
      obtain ⟨r28, hr28, hF⟩ := bind_some hF
      refine region_do (n := 28) [.slot 25 100000 100000 (fun _ _ => (eqVP p_0)),
      .slot 26 100000 100000 (fun _ _ => (aggVP [arrCk 64 32 (dC 32) (lens_dC 32) y27])),
      .slot 27 100000 100000 (fun _ _ => (aggVP [bytesCk 32 r28.1])),
      .res 100000 100000 (fun _ _ => (Log_e p_0 r28.2)),
      .res 100000 100000 (fun _ _ => (lb p2 23 [bytesCk 32 r28.1]))] [0, 1, 2, 2, 3] [⟨[0], [], [6], [], some 25⟩, ⟨[2, 5], [], [7], [0], some 26⟩, ⟨[6, 7], [3], [8, 9], [0, 1], some 27⟩, ⟨[1, 8], [4], [10], [0, 1, 2], none⟩] [1, 10, 9] mixed hn hG h (by kernel_rfl) ?_ ?_
      · exact ⟨⟨rfl, fun β => (GOk.plain (op_move (opt 0 rfl)) rfl)⟩, ⟨rfl, fun β => (GOk.plain (op_load_lb [] [arrCk 64 32 (dC 32) (lens_dC 32) y27] [] 1 Tryd.isAgg122 Tryd.sizeOf122 (opt 0 rfl) rfl rfl rfl) rfl)⟩, ⟨rfl, fun β => (GOk.plain (op_call Tryd.call70 (lamport_pair_ok hr28) ⟨(opt 0 rfl), (opt 1 rfl), trivial⟩) rfl)⟩, ⟨rfl, fun β => (GOk.plain (op_store_lb [] [bytesCk 32 (List.replicate 32 0)] [] [bytesCk 32 r28.1] Tryd.sizeOf23 (opt 0 rfl) (opt 1 rfl) (cells_agg _) rfl rfl rfl) rfl)⟩, trivial⟩
      clear h
      intro β a w h
      change SatL c [.slot 6 (lpVP p2 0), .res (lb p2 23 [bytesCk 32 r28.1]), .res (Log_e p_0 r28.2)] a w at h
      clear β
      show Code.wp Tryd.prog _ _ a w
      refine wp_ret ?_
      obtain rfl := Option.some.inj hF
      exact ⟨.inl rfl, ret1 h Tryd.results48 (r_cell 0 1 rfl rfl Tryd.isAgg23 Tryd.sizeOf23 rfl) [2] [(Log_e p_0 r28.2)] rfl rfl rfl⟩

def keys_New.b1 (a_1 : List UInt8) (x9 : Int) (x10 : Option O_Log) (x11 : Option S_keys_Signer) : Option (Flow (S_keys_Signer × (Option O_Log)) (Int × (Option O_Log) × (Option S_keys_Signer))) := (if (decide (x9 < (16 : Int))) = true then ((x11).bind fun s23 => ((lamport_Word x10 a_1 x9).bind fun r26 => (if s23.f_Leaves.length + [r26.1].length ≤ mxl ∧ (s23.f_Leaves.length + [r26.1].length) * 32 ≤ 140737488355328 then some (.cont (IntKind.wrap .i64 (x9 + 1), r26.2, (some ⟨s23.f_Seed, s23.f_Next, s23.f_Leaves ++ [r26.1]⟩))) else none))) else some (.brk (x9, x10, x11)))
def keys_New (L_0 : Option O_Log) (a_1 : List UInt8) : Option (S_keys_Signer × (Option O_Log)) := ((loopN (fun s : Int × (Option O_Log) × (Option S_keys_Signer) => keys_New.b1 a_1 s.1 s.2.1 s.2.2) ((16 - 0 : Int).toNat + 2) (0, L_0, (some ⟨a_1, (0 : Int), []⟩))).bind fun cr => match cr with | .ret r => some r | .next (y33, y34, y35) => ((y35).bind fun s36 => some (s36, y34)))
theorem keys_New_ok {p_0 : Value} {L_0 : Option O_Log} {a_1 : List UInt8} {r : S_keys_Signer × (Option O_Log)} (hF : keys_New L_0 a_1 = some r) : CallOk Tryd.prog KG 12 [(eqVP p_0), (aggVP [bytesCk 32 a_1])] [(Log_e p_0 L_0)] (fun _ => [Log_e p_0 r.2]) (aggVP [bytesCk 32 r.1.f_Seed, one (intVP .i64 r.1.f_Next), one (slVP (dC 32) r.1.f_Leaves)]) := by
  refine CallOk.intro 23 Tryd.func12 rfl Tryd.ntmps12 (Nat.le_of_ble_eq_true rfl) ?_
  intro c a w hG hn h
  unfold keys_New at hF
  change SatL c [.slot 0 (eqVP p_0), .slot 1 (aggVP [bytesCk 32 a_1]), .res (Log_e p_0 L_0)] a w at h
  refine wp_seq ?_
  refine region_do (n := 23) [.slot 3 0 100000 (fun v1_ _ => (lpVP v1_ 0)),
      .res 0 100000 (fun v1_ _ => (lb (v1_) 23 [bytesCk 32 a_1])),
      .slot 4 1 100000 (fun v1_ _ => (lpVP v1_ 0)),
      .res 1 100000 (fun v1_ _ => (lb (v1_) 27 [bytesCk 32 (List.replicate 32 0), one (intVP .i64 (0 : Int)), one (eqVP (.slice none 0 0))]))] [0, 0, 1, 1] [⟨[1], [], [3, 4], [], some 3⟩, ⟨[], [], [5, 6], [0], some 4⟩] [0, 3, 5, 2, 4, 6] mixed hn hG h (by kernel_rfl) ?_ ?_
  · exact ⟨⟨rfl, fun β => (GOk.plain (op_box (opt 0 rfl) (cells_agg _)) rfl)⟩, ⟨rfl, fun β => (GOk.plain (op_alloc Tryd.zeroValue27 zo27) rfl)⟩, trivial⟩
  clear h
  intro β a w h
  change SatL c [.slot 0 (eqVP p_0), .slot 3 (lpVP (β 0) 0), .slot 4 (lpVP (β 1) 0), .res (Log_e p_0 L_0), .res (lb (β 0) 23 [bytesCk 32 a_1]), .res (lb (β 1) 27 [bytesCk 32 (List.replicate 32 0), one (intVP .i64 (0 : Int)), one (eqVP (.slice none 0 0))])] a w at h
  generalize β 0 = p1 at h
  generalize β 1 = p2 at h
  clear β
  show Code.wp Tryd.prog _ _ a w
  refine wp_seq ?_
  refine region_do (n := 23) [.slot 7 100000 100000 (fun _ _ => (aggVP [bytesCk 32 a_1])),
      .slot 8 100000 100000 (fun _ _ => (aggVP [bytesCk 32 a_1, one (intVP .i64 (0 : Int)), one (eqVP (.slice none 0 0))])),
      .slot 5 2 100000 (fun v1_ _ => (lpVP v1_ 0)),
      .res 2 100000 (fun v1_ _ => (lb (v1_) 27 [bytesCk 32 (List.replicate 32 0), one (intVP .i64 (0 : Int)), one (eqVP (.slice none 0 0))])),
      .res 2 100000 (fun v1_ _ => (lb (v1_) 27 [bytesCk 32 a_1, one (intVP .i64 (0 : Int)), one (eqVP (.slice none 0 0))]))] [0, 1, 2, 2, 3] [⟨[1, 4], [], [6], [], some 7⟩, ⟨[6], [], [7], [0], some 8⟩, ⟨[], [], [8, 9], [0, 1], some 5⟩, ⟨[8, 7], [9], [10], [0, 1, 2], none⟩] [0, 1, 2, 8, 3, 4, 5, 10] mixed hn hG h (by kernel_rfl) ?_ ?_
  · exact ⟨⟨rfl, fun β => (GOk.plain (op_load_lb [] [bytesCk 32 a_1] [] 1 Tryd.isAgg23 Tryd.sizeOf23 (opt 0 rfl) rfl rfl rfl) rfl)⟩, ⟨rfl, fun β => (GOk.plain (op_build [(0, .tmp 7)] rfl bu27 zo27 ⟨[], [bytesCk 32 (List.replicate 32 0)], [one (intVP .i64 (0 : Int)), one (eqVP (.slice none 0 0))], [bytesCk 32 a_1], _, rfl, rfl, rfl, (opt 0 rfl), (cells_agg _), rfl⟩) rfl)⟩, ⟨rfl, fun β => (GOk.plain (op_alloc Tryd.zeroValue27 zo27) rfl)⟩, ⟨rfl, fun β => (GOk.plain (op_store_lb [] [bytesCk 32 (List.replicate 32 0), one (intVP .i64 (0 : Int)), one (eqVP (.slice none 0 0))] [] [bytesCk 32 a_1, one (intVP .i64 (0 : Int)), one (eqVP (.slice none 0 0))] Tryd.sizeOf27 (opt 0 rfl) (opt 1 rfl) (cells_agg _) rfl rfl rfl) rfl)⟩, trivial⟩
  clear h
  intro β a w h
  change SatL c [.slot 0 (eqVP p_0), .slot 3 (lpVP p1 0), .slot 4 (lpVP p2 0), .slot 5 (lpVP (β 2) 0), .res (Log_e p_0 L_0), .res (lb p1 23 [bytesCk 32 a_1]), .res (lb p2 27 [bytesCk 32 (List.replicate 32 0), one (intVP .i64 (0 : Int)), one (eqVP (.slice none 0 0))]), .res (lb (β 2) 27 [bytesCk 32 a_1, one (intVP .i64 (0 : Int)), one (eqVP (.slice none 0 0))])] a w at h
  generalize β 2 = p3 at h
  clear β
  show Code.wp Tryd.prog _ _ a w
  refine wp_seq ?_
  refine wp_seq ?_
  refine region_do (n := 23) [.slot 9 100000 100000 (fun _ _ => (intVP .i64 0))] [0] [⟨[], [], [8], [], some 9⟩] [0, 1, 2, 3, 8, 4, 5, 6, 7] mixed hn hG h (by kernel_rfl) ?_ ?_
  · exact ⟨⟨rfl, fun β => (GOk.plain (op_move (opc (ic (by decide)))) rfl)⟩, trivial⟩
  clear h
  intro β a w h
  change SatL c [.slot 0 (eqVP p_0), .slot 3 (lpVP p1 0), .slot 4 (lpVP p2 0), .slot 5 (lpVP p3 0), .slot 9 (intVP .i64 0), .res (Log_e p_0 L_0), .res (lb p1 23 [bytesCk 32 a_1]), .res (lb p2 27 [bytesCk 32 (List.replicate 32 0), one (intVP .i64 (0 : Int)), one (eqVP (.slice none 0 0))]), .res (lb p3 27 [bytesCk 32 a_1, one (intVP .i64 (0 : Int)), one (eqVP (.slice none 0 0))])] a w at h
  clear β
  show Code.wp Tryd.prog _ _ a w
  refine wp_block ?_
  replace h := h.nilacc 23 32 (dC 32)
  replace h := h.unsep 8 9 rfl rfl (by decide)
  replace h := h.conv 8 rfl (R' := Sgn_e p3 (some ⟨a_1, (0 : Int), []⟩)) (Sgn_packo (v2 := (.slice none 0 0)) (o := (some ⟨a_1, (0 : Int), []⟩)))
  replace h := h.slotc 3 rfl (fun _ _ h => lp_eqv h)
  replace h := h.sub [0, 1, 2, 3, 4, 5, 6, 7, 8] (by rfl)
  change SatL c [.slot 0 (eqVP p_0), .slot 3 (lpVP p1 0), .slot 4 (lpVP p2 0), .slot 5 (eqVP p3), .slot 9 (intVP .i64 0), .res (Log_e p_0 L_0), .res (lb p1 23 [bytesCk 32 a_1]), .res (lb p2 27 [bytesCk 32 (List.replicate 32 0), one (intVP .i64 (0 : Int)), one (eqVP (.slice none 0 0))]), .res (Sgn_e p3 (some ⟨a_1, (0 : Int), []⟩))] a w at h
  obtain ⟨cr29, hl30, hF⟩ := bind_some hF
  refine wp_mono (wp_loopN (R := S_keys_Signer × (Option O_Log)) (S := Int × (Option O_Log) × (Option S_keys_Signer)) (fun s a w => SatL c [.slot 0 (eqVP p_0), .slot 3 (lpVP p1 0), .slot 4 (lpVP p2 0), .slot 5 (eqVP p3), .slot 9 (intVP .i64 s.1), .res (Log_e p_0 s.2.1), .res (lb p1 23 [bytesCk 32 a_1]), .res (lb p2 27 [bytesCk 32 (List.replicate 32 0), one (intVP .i64 (0 : Int)), one (eqVP (.slice none 0 0))]), .res (Sgn_e p3 s.2.2)] a w) (fun res e a w => match res with | .next s => e = .exit 0 ∧ SatL c [.slot 4 (lpVP p2 0), .slot 5 (eqVP p3), .res (Log_e p_0 s.2.1), .res (lb p2 27 [bytesCk 32 (List.replicate 32 0), one (intVP .i64 (0 : Int)), one (eqVP (.slice none 0 0))]), .res (Sgn_e p3 s.2.2)] a w | .ret r => e = .ret ∧ RetOk Tryd.prog Tryd.f12 c (aggVP [bytesCk 32 r.1.f_Seed, one (intVP .i64 r.1.f_Next), one (slVP (dC 32) r.1.f_Leaves)]) (fun _ => [Log_e p_0 r.2]) a w) ?_ _ (0, L_0, (some ⟨a_1, (0 : Int), []⟩)) _ _ _ (h.sub [0, 1, 2, 3, 4, 5, 6, 7, 8] (by rfl)) hl30) ?_
  · clear hl30 hF h
    intro s a w o h hF
    obtain ⟨x9, x10, x11⟩ := s
    change keys_New.b1 a_1 x9 x10 x11 = some o at hF
    unfold keys_New.b1 at hF
    change SatL c [.slot 0 (eqVP p_0), .slot 3 (lpVP p1 0), .slot 4 (lpVP p2 0), .slot 5 (eqVP p3), .slot 9 (intVP .i64 x9), .res (Log_e p_0 x10), .res (lb p1 23 [bytesCk 32 a_1]), .res (lb p2 27 [bytesCk 32 (List.replicate 32 0), one (intVP .i64 (0 : Int)), one (eqVP (.slice none 0 0))]), .res (Sgn_e p3 x11)] a w at h
    refine wp_seq ?_
    refine region_do (n := 23) [.slot 10 100000 100000 (fun _ _ => (boolVP (decide (x9 < (16 : Int)))))] [0] [⟨[4], [], [9], [], some 10⟩] [0, 1, 2, 3, 4, 9, 5, 6, 7, 8] mixed hn hG h (by kernel_rfl) ?_ ?_
    · exact ⟨⟨rfl, fun β => (GOk.plain (op_bin bin_lss (opt 0 rfl) (opc (ic (by decide)))) rfl)⟩, trivial⟩
    clear h
    intro β a w h
    change SatL c [.slot 0 (eqVP p_0), .slot 3 (lpVP p1 0), .slot 4 (lpVP p2 0), .slot 5 (eqVP p3), .slot 9 (intVP .i64 x9), .slot 10 (boolVP (decide (x9 < (16 : Int)))), .res (Log_e p_0 x10), .res (lb p1 23 [bytesCk 32 a_1]), .res (lb p2 27 [bytesCk 32 (List.replicate 32 0), one (intVP .i64 (0 : Int)), one (eqVP (.slice none 0 0))]), .res (Sgn_e p3 x11)] a w at h
    clear β
    show Code.wp Tryd.prog _ _ a w
    refine wp_seq ?_
    refine cond_L h 5 rfl (fun hb22 => ?_) (fun hb22 => ?_)
    · replace hF := tt_of hb22 hF
      replace h := h.sub [0, 1, 2, 3, 4, 6, 7, 8, 9] (by rfl)
      change SatL c [.slot 0 (eqVP p_0), .slot 3 (lpVP p1 0), .slot 4 (lpVP p2 0), .slot 5 (eqVP p3), .slot 9 (intVP .i64 x9), .res (Log_e p_0 x10), .res (lb p1 23 [bytesCk 32 a_1]), .res (lb p2 27 [bytesCk 32 (List.replicate 32 0), one (intVP .i64 (0 : Int)), one (eqVP (.slice none 0 0))]), .res (Sgn_e p3 x11)] a w at h
      refine wp_skip ?_
      show Code.wp Tryd.prog _ _ a w
      refine wp_seq ?_
      refine wp_block ?_
      refine wp_seq ?_
      refine region_do (n := 23) [.slot 11 100000 100000 (fun _ _ => (intVP .i64 x9)),
      .slot 6 100000 100000 (fun _ _ => (intVP .i64 x9))] [0, 1] [⟨[4], [], [9], [], some 11⟩, ⟨[9], [], [10], [0], some 6⟩] [0, 1, 2, 3, 10, 4, 5, 6, 7, 8] mixed hn hG h (by kernel_rfl) ?_ ?_
      · exact ⟨⟨rfl, fun β => (GOk.plain (op_move (opt 0 rfl)) rfl)⟩, ⟨rfl, fun β => (GOk.plain (op_assign (opt 0 rfl)) rfl)⟩, trivial⟩
      clear h
      intro β a w h
      change SatL c [.slot 0 (eqVP p_0), .slot 3 (lpVP p1 0), .slot 4 (lpVP p2 0), .slot 5 (eqVP p3), .slot 6 (intVP .i64 x9), .slot 9 (intVP .i64 x9), .res (Log_e p_0 x10), .res (lb p1 23 [bytesCk 32 a_1]), .res (lb p2 27 [bytesCk 32 (List.replicate 32 0), one (intVP .i64 (0 : Int)), one (eqVP (.slice none 0 0))]), .res (Sgn_e p3 x11)] a w at h
      clear β
      show Code.wp Tryd.prog _ _ a w
      obtain ⟨s23, hs24, hF⟩ := bind_some hF
      rw [hs24] at h
      obtain ⟨h25, h⟩ := h.ex 9 rfl
      have hp := h.isp 9 rfl (fun Φ f w q => Sgn_lp Φ f w q)
      replace h := h.slotc 3 rfl (V' := lpVP p3 0) (fun _ _ h => eq_lp h hp)
      replace h := h.sep (R := lb p3 27 [bytesCk 32 s23.f_Seed, one (intVP .i64 s23.f_Next), one (eqVP h25)]) (S := (acc h25 23 32 (dC 32) s23.f_Leaves)) 9 rfl
      replace h := h.sub [0, 1, 2, 3, 4, 5, 6, 7, 8, 9, 10] (by rfl)
      change SatL c [.slot 0 (eqVP p_0), .slot 3 (lpVP p1 0), .slot 4 (lpVP p2 0), .slot 5 (lpVP p3 0), .slot 6 (intVP .i64 x9), .slot 9 (intVP .i64 x9), .res (Log_e p_0 x10), .res (lb p1 23 [bytesCk 32 a_1]), .res (lb p2 27 [bytesCk 32 (List.replicate 32 0), one (intVP .i64 (0 : Int)), one (eqVP (.slice none 0 0))]), .res (lb p3 27 [bytesCk 32 s23.f_Seed, one (intVP .i64 s23.f_Next), one (eqVP h25)]), .res (acc h25 23 32 (dC 32) s23.f_Leaves)] a w at h
      obtain ⟨r26, hr26, hF⟩ := bind_some hF
      obtain ⟨hv27, hF⟩ := ite_some hF
      refine region_do (n := 23) [.slot 12 100000 100000 (fun _ _ => (lpVP p3 33)),
      .slot 13 100000 100000 (fun _ _ => (eqVP h25)),
      .slot 14 100000 100000 (fun _ _ => (eqVP p_0)),
      .slot 15 100000 100000 (fun _ _ => (aggVP [bytesCk 32 a_1])),
      .slot 16 100000 100000 (fun _ _ => (intVP .i64 x9)),
      .slot 17 100000 100000 (fun _ _ => (aggVP [bytesCk 32 r26.1])),
      .res 100000 100000 (fun _ _ => (Log_e p_0 r26.2)),
      .slot 18 100000 100000 (fun _ _ => (slVP (dC 32) [r26.1])),
      .slot 19 7 100000 (fun v1_ _ => (eqVP v1_)),
      .res 7 100000 (fun v1_ _ => (acc (v1_) 23 32 (dC 32) (s23.f_Leaves ++ [r26.1]))),
      .slot 20 100000 100000 (fun _ _ => (lpVP p3 33)),
      .res 7 100000 (fun v1_ _ => (lb p3 27 [bytesCk 32 s23.f_Seed, one (intVP .i64 s23.f_Next), one (eqVP (v1_))]))] [0, 1, 2, 3, 4, 5, 5, 6, 7, 7, 8, 9] [⟨[3], [], [11], [], some 12⟩, ⟨[11, 9], [], [12], [0], some 13⟩, ⟨[0], [], [13], [], some 14⟩, ⟨[1, 7], [], [14], [], some 15⟩, ⟨[4], [], [15], [], some 16⟩, ⟨[13, 14, 15], [6], [16, 17], [2, 3, 4], some 17⟩, ⟨[16], [], [18], [2, 3, 4, 5], some 18⟩, ⟨[12, 18], [10], [19, 20], [0, 1, 2, 3, 4, 5, 6], some 19⟩, ⟨[3], [], [21], [0, 1, 2, 3, 4, 5, 6, 7], some 20⟩, ⟨[21, 19, 20], [9], [22], [0, 1, 2, 3, 4, 5, 6, 7, 8], none⟩] [0, 1, 2, 3, 5, 7, 8, 22, 17, 20] mixed hn hG h (by kernel_rfl) ?_ ?_
      · exact ⟨⟨rfl, fun β => (GOk.plain (op_fieldAddr_lbm (p := p3) (n := 1) 0 33 Tryd.underlying27 rfl Tryd.sizeOf24 (by decide) (opt 0 rfl) rfl) rfl)⟩, ⟨rfl, fun β => (GOk.plain (op_load_lb1 [bytesCk 32 s23.f_Seed, one (intVP .i64 s23.f_Next)] [] 1 Tryd.isAgg24 (opt 0 rfl) rfl rfl) rfl)⟩, ⟨rfl, fun β => (GOk.plain (op_move (opt 0 rfl)) rfl)⟩, ⟨rfl, fun β => (GOk.plain (op_load_lb [] [bytesCk 32 a_1] [] 1 Tryd.isAgg23 Tryd.sizeOf23 (opt 0 rfl) rfl rfl rfl) rfl)⟩, ⟨rfl, fun β => (GOk.plain (op_move (opt 0 rfl)) rfl)⟩, ⟨rfl, fun β => (GOk.plain (op_call Tryd.call48 (lamport_Word_ok hr26) ⟨(opt 0 rfl), (opt 1 rfl), (opt 2 rfl), trivial⟩) rfl)⟩, ⟨rfl, fun β => (GOk.plain (op_lit (xs := [.tmp 17]) (ys := [r26.1]) _ rfl Tryd.underlying24 Tryd.sizeOf23 Tryd.zeroValue23 rfl rfl (by decide) (by decide) ⟨⟨_, (opt 0 rfl), (cells_agg _)⟩, trivial⟩ (lens_dC 32)) rfl)⟩, ⟨rfl, fun β => (GOk.plain (op_append (i := Tryd.t23) Tryd.underlying24 Tryd.type23 rfl (lens_dC 32) (by decide) rfl (opt 0 rfl) (opt 1 rfl) hv27) rfl)⟩, ⟨rfl, fun β => (GOk.plain (op_fieldAddr_lbm (p := p3) (n := 1) 0 33 Tryd.underlying27 rfl Tryd.sizeOf24 (by decide) (opt 0 rfl) rfl) rfl)⟩, ⟨rfl, fun β => (GOk.plain (op_store_lb [bytesCk 32 s23.f_Seed, one (intVP .i64 s23.f_Next)] [one (eqVP h25)] [] [one (eqVP ((β 7)))] Tryd.sizeOf24 (opt 0 rfl) (opone 1 2 rfl rfl acc_one) (cells_h _) rfl rfl rfl) rfl)⟩, trivial⟩
      clear h
      intro β a w h
      change SatL c [.slot 0 (eqVP p_0), .slot 3 (lpVP p1 0), .slot 4 (lpVP p2 0), .slot 5 (lpVP p3 0), .slot 9 (intVP .i64 x9), .res (lb p1 23 [bytesCk 32 a_1]), .res (lb p2 27 [bytesCk 32 (List.replicate 32 0), one (intVP .i64 (0 : Int)), one (eqVP (.slice none 0 0))]), .res (lb p3 27 [bytesCk 32 s23.f_Seed, one (intVP .i64 s23.f_Next), one (eqVP (β 7))]), .res (Log_e p_0 r26.2), .res (acc (β 7) 23 32 (dC 32) (s23.f_Leaves ++ [r26.1]))] a w at h
      generalize β 7 = p28 at h
      clear β
      replace h := h.unsep 7 9 rfl rfl (by decide)
      replace h := h.conv 7 rfl (R' := Sgn_e p3 (some ⟨s23.f_Seed, s23.f_Next, s23.f_Leaves ++ [r26.1]⟩)) (Sgn_packo (v2 := p28) (o := (some ⟨s23.f_Seed, s23.f_Next, s23.f_Leaves ++ [r26.1]⟩)))
      replace h := h.slotc 3 rfl (fun _ _ h => lp_eqv h)
      replace h := h.sub [0, 1, 2, 3, 4, 5, 6, 8, 7] (by rfl)
      change SatL c [.slot 0 (eqVP p_0), .slot 3 (lpVP p1 0), .slot 4 (lpVP p2 0), .slot 5 (eqVP p3), .slot 9 (intVP .i64 x9), .res (lb p1 23 [bytesCk 32 a_1]), .res (lb p2 27 [bytesCk 32 (List.replicate 32 0), one (intVP .i64 (0 : Int)), one (eqVP (.slice none 0 0))]), .res (Log_e p_0 r26.2), .res (Sgn_e p3 (some ⟨s23.f_Seed, s23.f_Next, s23.f_Leaves ++ [r26.1]⟩))] a w at h
      show Code.wp Tryd.prog _ _ a w
      refine region_do (n := 23) [.slot 21 100000 100000 (fun _ _ => (intVP .i64 (IntKind.wrap .i64 (x9 + 1)))),
      .slot 9 100000 100000 (fun _ _ => (intVP .i64 (IntKind.wrap .i64 (x9 + 1))))] [0, 1] [⟨[4], [], [9], [], some 21⟩, ⟨[9], [4], [10], [0], some 9⟩] [0, 1, 2, 3, 10, 5, 6, 7, 8] mixed hn hG h (by kernel_rfl) ?_ ?_
      · exact ⟨⟨rfl, fun β => (GOk.plain (op_bin bin_add (opt 0 rfl) (opc (ic (by decide)))) rfl)⟩, ⟨rfl, fun β => (GOk.drop _ (GOk.plain (op_move (opt 0 rfl)) rfl))⟩, trivial⟩
      clear h
      intro β a w h
      change SatL c [.slot 0 (eqVP p_0), .slot 3 (lpVP p1 0), .slot 4 (lpVP p2 0), .slot 5 (eqVP p3), .slot 9 (intVP .i64 (IntKind.wrap .i64 (x9 + 1))), .res (lb p1 23 [bytesCk 32 a_1]), .res (lb p2 27 [bytesCk 32 (List.replicate 32 0), one (intVP .i64 (0 : Int)), one (eqVP (.slice none 0 0))]), .res (Log_e p_0 r26.2), .res (Sgn_e p3 (some ⟨s23.f_Seed, s23.f_Next, s23.f_Leaves ++ [r26.1]⟩))] a w at h
      clear β
      obtain rfl := Option.some.inj hF
      exact ⟨rfl, h.sub [0, 1, 2, 3, 4, 7, 5, 6, 8] (by rfl)⟩
    · replace hF := ff_of hb22 hF
      replace h := h.sub [0, 1, 2, 3, 4, 6, 7, 8, 9] (by rfl)
      change SatL c [.slot 0 (eqVP p_0), .slot 3 (lpVP p1 0), .slot 4 (lpVP p2 0), .slot 5 (eqVP p3), .slot 9 (intVP .i64 x9), .res (Log_e p_0 x10), .res (lb p1 23 [bytesCk 32 a_1]), .res (lb p2 27 [bytesCk 32 (List.replicate 32 0), one (intVP .i64 (0 : Int)), one (eqVP (.slice none 0 0))]), .res (Sgn_e p3 x11)] a w at h
      refine wp_exit ?_
      obtain rfl := Option.some.inj hF
      exact ⟨exit_ne _, rfl, h.sub [2, 3, 5, 7, 8] (by rfl)⟩
  · clear hl30
    intro e a w hq
    cases cr29 with
    | ret r31 =>
      obtain ⟨rfl, hq⟩ := hq
      obtain rfl := Option.some.inj hF
      exact ⟨.inl rfl, hq⟩
    | next s32 =>
      obtain ⟨y33, y34, y35⟩ := s32
      obtain ⟨rfl, h⟩ := hq
      change SatL c [.slot 4 (lpVP p2 0), .slot 5 (eqVP p3), .res (Log_e p_0 y34), .res (lb p2 27 [bytesCk 32 (List.replicate 32 0), one (intVP .i64 (0 : Int)), one (eqVP (.slice none 0 0))]), .res (Sgn_e p3 y35)] a w at h
      refine inBlock_at ?_
      show Code.wp Tryd.prog _ _ a w
      refine wp_seq ?_
      obtain ⟨s36, hs37, hF⟩ := bind_some hF
      rw [hs37] at h
      obtain ⟨h38, h⟩ := h.ex 4 rfl
      have hp := h.isp 4 rfl (fun Φ f w q => Sgn_lp Φ f w q)
      replace h := h.slotc 1 rfl (V' := lpVP p3 0) (fun _ _ h => eq_lp h hp)
      replace h := h.sep (R := lb p3 27 [bytesCk 32 s36.f_Seed, one (intVP .i64 s36.f_Next), one (eqVP h38)]) (S := (acc h38 23 32 (dC 32) s36.f_Leaves)) 4 rfl
      replace h := h.sub [0, 1, 2, 3, 4, 5] (by rfl)
      change SatL c [.slot 4 (lpVP p2 0), .slot 5 (lpVP p3 0), .res (Log_e p_0 y34), .res (lb p2 27 [bytesCk 32 (List.replicate 32 0), one (intVP .i64 (0 : Int)), one (eqVP (.slice none 0 0))]), .res (lb p3 27 [bytesCk 32 s36.f_Seed, one (intVP .i64 s36.f_Next), one (eqVP h38)]), .res (acc h38 23 32 (dC 32) s36.f_Leaves)] a w at h
      replace h := h.unsep 4 5 rfl rfl (by decide)
      replace h := h.conv 4 rfl (settle (pre := [bytesCk 32 s36.f_Seed, one (intVP .i64 s36.f_Next)]) (post := []))
      replace h := h.sep 4 rfl
      replace h := h.sub [0, 1, 2, 3, 4] (by rfl)
      change SatL c [.slot 4 (lpVP p2 0), .slot 5 (lpVP p3 0), .res (Log_e p_0 y34), .res (lb p2 27 [bytesCk 32 (List.replicate 32 0), one (intVP .i64 (0 : Int)), one (eqVP (.slice none 0 0))]), .res (lb p3 27 [bytesCk 32 s36.f_Seed, one (intVP .i64 s36.f_Next), one (slVP (dC 32) s36.f_Leaves)])] a w at h
      refine region_do (n := 23) [.slot 22 100000 100000 (fun _ _ => (aggVP [bytesCk 32 s36.f_Seed, one (intVP .i64 s36.f_Next), one (slVP (dC 32) s36.f_Leaves)])),
      .res 100000 100000 (fun _ _ => (lb p2 27 [bytesCk 32 s36.f_Seed, one (intVP .i64 s36.f_Next), one (slVP (dC 32) s36.f_Leaves)]))] [0, 1] [⟨[1, 4], [], [5], [], some 22⟩, ⟨[0, 5], [3], [6], [0], none⟩] [0, 2, 6] mixed hn hG h (by kernel_rfl) ?_ ?_
      · exact ⟨⟨rfl, fun β => (GOk.plain (op_load_lb [] [bytesCk 32 s36.f_Seed, one (intVP .i64 s36.f_Next), one (slVP (dC 32) s36.f_Leaves)] [] 1 Tryd.isAgg27 Tryd.sizeOf27 (opt 0 rfl) rfl rfl rfl) rfl)⟩, ⟨rfl, fun β => (GOk.plain (op_store_lb [] [bytesCk 32 (List.replicate 32 0), one (intVP .i64 (0 : Int)), one (eqVP (.slice none 0 0))] [] [bytesCk 32 s36.f_Seed, one (intVP .i64 s36.f_Next), one (slVP (dC 32) s36.f_Leaves)] Tryd.sizeOf27 (opt 0 rfl) (opt 1 rfl) (cells_agg _) rfl rfl rfl) rfl)⟩, trivial⟩
      clear h
      intro β a w h
      change SatL c [.slot 4 (lpVP p2 0), .res (Log_e p_0 y34), .res (lb p2 27 [bytesCk 32 s36.f_Seed, one (intVP .i64 s36.f_Next), one (slVP (dC 32) s36.f_Leaves)])] a w at h
      clear β
      show Code.wp Tryd.prog _ _ a w
      refine wp_ret ?_
      obtain rfl := Option.some.inj hF
      exact ⟨.inl rfl, ret1 h Tryd.results12 (r_cell 0 2 rfl rfl Tryd.isAgg27 Tryd.sizeOf27 rfl) [1] [(Log_e p_0 y34)] rfl rfl rfl⟩

def digest_Log_Two (L_0 : Option O_Log) (a_1 : Int) (a_2 : List UInt8) (a_3 : List UInt8) : Option ((List UInt8) × (Option O_Log)) := ((wire_Digest a_2).bind fun r4 => ((wire_Digest a_3).bind fun r5 => ((digest_Log_Of L_0 a_1 [r4, r5]).bind fun r6 => some (r6.1, r6.2))))
theorem digest_Log_Two_ok {p_0 : Value} {L_0 : Option O_Log} {a_1 : Int} {a_2 : List UInt8} {a_3 : List UInt8} {r : (List UInt8) × (Option O_Log)} (hF : digest_Log_Two L_0 a_1 a_2 a_3 = some r) : CallOk Tryd.prog KG 71 [(eqVP p_0), (intVP .u8 a_1), (aggVP [bytesCk 32 a_2]), (aggVP [bytesCk 32 a_3])] [(Log_e p_0 L_0)] (fun _ => [Log_e p_0 r.2]) (aggVP [bytesCk 32 r.1]) := by
  refine CallOk.intro 17 Tryd.func71 rfl Tryd.ntmps71 (Nat.le_of_ble_eq_true rfl) ?_
  intro c a w hG hn h
  unfold digest_Log_Two at hF
  change SatL c [.slot 0 (eqVP p_0), .slot 1 (intVP .u8 a_1), .slot 2 (aggVP [bytesCk 32 a_2]), .slot 3 (aggVP [bytesCk 32 a_3]), .res (Log_e p_0 L_0)] a w at h
  refine wp_seq ?_
  refine region_do (n := 17) [.slot 6 0 100000 (fun v1_ _ => (lpVP v1_ 0)),
      .res 0 100000 (fun v1_ _ => (lb (v1_) 23 [bytesCk 32 a_2])),
      .slot 7 1 100000 (fun v1_ _ => (lpVP v1_ 0)),
      .res 1 100000 (fun v1_ _ => (lb (v1_) 23 [bytesCk 32 a_3])),
      .slot 8 2 100000 (fun v1_ _ => (lpVP v1_ 0)),
      .res 2 100000 (fun v1_ _ => (lb (v1_) 23 [bytesCk 32 (List.replicate 32 0)]))] [0, 0, 1, 1, 2, 2] [⟨[2], [], [5, 6], [], some 6⟩, ⟨[3], [], [7, 8], [0], some 7⟩, ⟨[], [], [9, 10], [0, 1], some 8⟩] [0, 1, 5, 7, 9, 4, 6, 8, 10] mixed hn hG h (by kernel_rfl) ?_ ?_
  · exact ⟨⟨rfl, fun β => (GOk.plain (op_box (opt 0 rfl) (cells_agg _)) rfl)⟩, ⟨rfl, fun β => (GOk.plain (op_box (opt 0 rfl) (cells_agg _)) rfl)⟩, ⟨rfl, fun β => (GOk.plain (op_alloc Tryd.zeroValue23 z23) rfl)⟩, trivial⟩
  clear h
  intro β a w h
  change SatL c [.slot 0 (eqVP p_0), .slot 1 (intVP .u8 a_1), .slot 6 (lpVP (β 0) 0), .slot 7 (lpVP (β 1) 0), .slot 8 (lpVP (β 2) 0), .res (Log_e p_0 L_0), .res (lb (β 0) 23 [bytesCk 32 a_2]), .res (lb (β 1) 23 [bytesCk 32 a_3]), .res (lb (β 2) 23 [bytesCk 32 (List.replicate 32 0)])] a w at h
  generalize β 0 = p1 at h
  generalize β 1 = p2 at h
  generalize β 2 = p3 at h
  clear β
  show Code.wp Tryd.prog _ _ a w
  refine wp_seq ?_
  obtain ⟨r4, hr4, hF⟩ := bind_some hF
  obtain ⟨r5, hr5, hF⟩ := bind_some hF
  obtain ⟨r6, hr6, hF⟩ := bind_some hF
  refine region_do (n := 17) [.slot 9 100000 100000 (fun _ _ => (eqVP p_0)),
      .slot 10 100000 100000 (fun _ _ => (intVP .u8 a_1)),
      .slot 11 100000 100000 (fun _ _ => (aggVP [bytesCk 32 a_2])),
      .slot 12 100000 100000 (fun _ _ => (strVP r4)),
      .slot 13 100000 100000 (fun _ _ => (aggVP [bytesCk 32 a_3])),
      .slot 14 100000 100000 (fun _ _ => (strVP r5)),
      .slot 15 100000 100000 (fun _ _ => (slVP strC [r4, r5])),
      .slot 16 100000 100000 (fun _ _ => (aggVP [bytesCk 32 r6.1])),
      .res 100000 100000 (fun _ _ => (Log_e p_0 r6.2)),
      .res 100000 100000 (fun _ _ => (lb p3 23 [bytesCk 32 r6.1]))] [0, 1, 2, 3, 4, 5, 6, 7, 7, 8] [⟨[0], [], [9], [], some 9⟩, ⟨[1], [], [10], [], some 10⟩, ⟨[2, 6], [], [11], [], some 11⟩, ⟨[11], [], [12], [2], some 12⟩, ⟨[3, 7], [], [13], [], some 13⟩, ⟨[13], [], [14], [2, 3, 4], some 14⟩, ⟨[12, 14], [], [15], [2, 3, 4, 5], some 15⟩, ⟨[9, 10, 15], [5], [16, 17], [0, 1, 2, 3, 4, 5, 6], some 16⟩, ⟨[4, 16], [8], [18], [0, 1, 2, 3, 4, 5, 6, 7], none⟩] [4, 18, 17] mixed hn hG h (by kernel_rfl) ?_ ?_
  · exact ⟨⟨rfl, fun β => (GOk.plain (op_move (opt 0 rfl)) rfl)⟩, ⟨rfl, fun β => (GOk.plain (op_move (opt 0 rfl)) rfl)⟩, ⟨rfl, fun β => (GOk.plain (op_load_lb [] [bytesCk 32 a_2] [] 1 Tryd.isAgg23 Tryd.sizeOf23 (opt 0 rfl) rfl rfl rfl) rfl)⟩, ⟨rfl, fun β => (GOk.plain (op_call Tryd.call64 (wire_Digest_ok hr4) ⟨(opt 0 rfl), trivial⟩) rfl)⟩, ⟨rfl, fun β => (GOk.plain (op_load_lb [] [bytesCk 32 a_3] [] 1 Tryd.isAgg23 Tryd.sizeOf23 (opt 0 rfl) rfl rfl rfl) rfl)⟩, ⟨rfl, fun β => (GOk.plain (op_call Tryd.call64 (wire_Digest_ok hr5) ⟨(opt 0 rfl), trivial⟩) rfl)⟩, ⟨rfl, fun β => (GOk.plain (op_lit (xs := [.tmp 12, .tmp 14]) (ys := [r4, r5]) _ rfl Tryd.underlying101 Tryd.sizeOf9 Tryd.zeroValue9 rfl rfl (by decide) (by decide) ⟨⟨_, (opt 0 rfl), (cells_one (one_str _))⟩, ⟨_, (opt 1 rfl), (cells_one (one_str _))⟩, trivial⟩ lens_strC) rfl)⟩, ⟨rfl, fun β => (GOk.plain (op_call Tryd.call62 (digest_Log_Of_ok hr6) ⟨(opt 0 rfl), (opt 1 rfl), (opt 2 rfl), trivial⟩) rfl)⟩, ⟨rfl, fun β => (GOk.plain (op_store_lb [] [bytesCk 32 (List.replicate 32 0)] [] [bytesCk 32 r6.1] Tryd.sizeOf23 (opt 0 rfl) (opt 1 rfl) (cells_agg _) rfl rfl rfl) rfl)⟩, trivial⟩
  clear h
  intro β a w h
  change SatL c [.slot 8 (lpVP p3 0), .res (lb p3 23 [bytesCk 32 r6.1]), .res (Log_e p_0 r6.2)] a w at h
  clear β
  show Code.wp Tryd.prog _ _ a w
  refine wp_ret ?_
  obtain rfl := Option.some.inj hF
  exact ⟨.inl rfl, ret1 h Tryd.results71 (r_cell 0 1 rfl rfl Tryd.isAgg23 Tryd.sizeOf23 rfl) [2] [(Log_e p_0 r6.2)] rfl rfl rfl⟩

def keys_up.b1 (a_1 : List (List UInt8)) (x15 : Int) (x16 : Option O_Log) (x17 : List (List UInt8)) : Option (Flow ((List (List UInt8)) × (Option O_Log)) (Int × (Option O_Log) × (List (List UInt8)))) := (if (decide ((IntKind.wrap .i64 (x15 + 1)) < (a_1.length : Int))) = true then (if (0 : Int) ≤ x15 ∧ x15 < a_1.length then (if (0 : Int) ≤ IntKind.wrap .i64 (x15 + 1) ∧ IntKind.wrap .i64 (x15 + 1) < a_1.length then ((digest_Log_Two x16 4 (a_1.getD x15.toNat default) (a_1.getD (IntKind.wrap .i64 (x15 + 1)).toNat default)).bind fun r32 => (if x17.length + [r32.1].length ≤ mxl ∧ (x17.length + [r32.1].length) * 32 ≤ 140737488355328 then some (.cont (IntKind.wrap .i64 (x15 + 2), r32.2, x17 ++ [r32.1])) else none)) else none) else none) else some (.brk (x15, x16, x17)))
def keys_up (L_0 : Option O_Log) (a_1 : List (List UInt8)) : Option ((List (List UInt8)) × (Option O_Log)) := ((loopN (fun s : Int × (Option O_Log) × (List (List UInt8)) => keys_up.b1 a_1 s.1 s.2.1 s.2.2) 100000 (0, L_0, [])).bind fun cr => match cr with | .ret r => some r | .next (y39, y40, y41) => some (y41, y40))
theorem keys_up_ok {p_0 : Value} {L_0 : Option O_Log} {a_1 : List (List UInt8)} {r : (List (List UInt8)) × (Option O_Log)} (hF : keys_up L_0 a_1 = some r) : CallOk Tryd.prog KG 49 [(eqVP p_0), (slVP (dC 32) a_1)] [(Log_e p_0 L_0)] (fun _ => [Log_e p_0 r.2]) (slVP (dC 32) r.1) := by
  refine CallOk.intro 29 Tryd.func49 rfl Tryd.ntmps49 (Nat.le_of_ble_eq_true rfl) ?_
  intro c a w hG hn h
  unfold keys_up at hF
  change SatL c [.slot 0 (eqVP p_0), .slot 1 (slVP (dC 32) a_1), .res (Log_e p_0 L_0)] a w at h
  refine wp_seq ?_
  refine region_do (n := 29) [.slot 4 100000 100000 (fun _ _ => (eqVP (.slice none 0 0)))] [0] [⟨[], [], [3], [], some 4⟩] [0, 1, 2] mixed hn hG h (by kernel_rfl) ?_ ?_
  · exact ⟨⟨rfl, fun β => (GOk.plain (op_assign (opc (ec _))) rfl)⟩, trivial⟩
  clear h
  intro β a w h
  change SatL c [.slot 0 (eqVP p_0), .slot 1 (slVP (dC 32) a_1), .res (Log_e p_0 L_0)] a w at h
  clear β
  show Code.wp Tryd.prog _ _ a w
  refine wp_seq ?_
  refine region_do (n := 29) [.slot 5 100000 100000 (fun _ _ => (eqVP (.slice none 0 0)))] [0] [⟨[], [], [3], [], some 5⟩] [0, 1, 3, 2] mixed hn hG h (by kernel_rfl) ?_ ?_
  · exact ⟨⟨rfl, fun β => (GOk.plain (op_assign (opc (ec _))) rfl)⟩, trivial⟩
  clear h
  intro β a w h
  change SatL c [.slot 0 (eqVP p_0), .slot 1 (slVP (dC 32) a_1), .slot 5 (eqVP (.slice none 0 0)), .res (Log_e p_0 L_0)] a w at h
  clear β
  show Code.wp Tryd.prog _ _ a w
  refine wp_seq ?_
  refine wp_seq ?_
  refine region_do (n := 29) [.slot 6 100000 100000 (fun _ _ => (intVP .i64 0))] [0] [⟨[], [], [4], [], some 6⟩] [0, 1, 2, 4, 3] mixed hn hG h (by kernel_rfl) ?_ ?_
  · exact ⟨⟨rfl, fun β => (GOk.plain (op_assign (opc (ic (by decide)))) rfl)⟩, trivial⟩
  clear h
  intro β a w h
  change SatL c [.slot 0 (eqVP p_0), .slot 1 (slVP (dC 32) a_1), .slot 5 (eqVP (.slice none 0 0)), .slot 6 (intVP .i64 0), .res (Log_e p_0 L_0)] a w at h
  clear β
  show Code.wp Tryd.prog _ _ a w
  refine wp_block ?_
  obtain ⟨q8, h⟩ : ∃ q8 : Value, SatL c [.slot 0 (eqVP p_0), .slot 1 (slVP (dC 32) a_1), .slot 5 (eqVP q8), .slot 6 (intVP .i64 0), .res (Log_e p_0 L_0), .res (acc q8 23 32 (dC 32) [])] a w := ⟨.slice none 0 0, (h.nilacc 23 32 (dC 32)).sub [0, 1, 2, 3, 4, 5] (by rfl)⟩
  obtain ⟨cr35, hl36, hF⟩ := bind_some hF
  refine wp_mono (wp_loopN (R := (List (List UInt8)) × (Option O_Log)) (S := Int × (Option O_Log) × (List (List UInt8))) (fun s a w => ∃ q18 : Value, SatL c [.slot 0 (eqVP p_0), .slot 1 (slVP (dC 32) a_1), .slot 5 (eqVP q18), .slot 6 (intVP .i64 s.1), .res (Log_e p_0 s.2.1), .res (acc q18 23 32 (dC 32) s.2.2)] a w) (fun res e a w => match res with | .next s => e = .exit 0 ∧ ∃ q18 : Value, SatL c [.slot 5 (eqVP q18), .res (Log_e p_0 s.2.1), .res (acc q18 23 32 (dC 32) s.2.2)] a w | .ret r => e = .ret ∧ RetOk Tryd.prog Tryd.f49 c (slVP (dC 32) r.1) (fun _ => [Log_e p_0 r.2]) a w) ?_ _ (0, L_0, []) _ _ _ ⟨q8, (h.sub [0, 1, 2, 3, 4, 5] (by rfl))⟩ hl36) ?_
  · clear hl36 hF h
    intro s a w o h hF
    obtain ⟨x15, x16, x17⟩ := s
    obtain ⟨q18, h⟩ := h
    change keys_up.b1 a_1 x15 x16 x17 = some o at hF
    unfold keys_up.b1 at hF
    change SatL c [.slot 0 (eqVP p_0), .slot 1 (slVP (dC 32) a_1), .slot 5 (eqVP q18), .slot 6 (intVP .i64 x15), .res (Log_e p_0 x16), .res (acc q18 23 32 (dC 32) x17)] a w at h
    refine wp_seq ?_
    refine wp_seq ?_
    refine region_do (n := 29) [.slot 7 100000 100000 (fun _ _ => (intVP .i64 x15)),
      .slot 8 100000 100000 (fun _ _ => (intVP .i64 (IntKind.wrap .i64 (x15 + 1)))),
      .slot 9 100000 100000 (fun _ _ => (slVP (dC 32) a_1)),
      .slot 10 100000 100000 (fun _ _ => (intVP .i64 (a_1.length : Int))),
      .slot 11 100000 100000 (fun _ _ => (boolVP (decide ((IntKind.wrap .i64 (x15 + 1)) < (a_1.length : Int)))))] [0, 1, 2, 3, 4] [⟨[3], [], [6], [], some 7⟩, ⟨[6], [], [7], [0], some 8⟩, ⟨[1], [], [8], [0, 1], some 9⟩, ⟨[8], [], [9], [0, 1, 2], some 10⟩, ⟨[7, 9], [], [10], [0, 1, 2, 3], some 11⟩] [0, 1, 2, 3, 10, 4, 5] mixed hn hG h (by kernel_rfl) ?_ ?_
    · exact ⟨⟨rfl, fun β => (GOk.plain (op_move (opt 0 rfl)) rfl)⟩, ⟨rfl, fun β => (GOk.plain (op_bin bin_add (opt 0 rfl) (opc (ic (by decide)))) rfl)⟩, ⟨rfl, fun β => (GOk.plain (op_move (opt 0 rfl)) rfl)⟩, ⟨rfl, fun β => (GOk.plain (op_len_sl Tryd.underlying24 (opt 0 rfl)) rfl)⟩, ⟨rfl, fun β => (GOk.plain (op_bin bin_lss (opt 0 rfl) (opt 1 rfl)) rfl)⟩, trivial⟩
    clear h
    intro β a w h
    change SatL c [.slot 0 (eqVP p_0), .slot 1 (slVP (dC 32) a_1), .slot 5 (eqVP q18), .slot 6 (intVP .i64 x15), .slot 11 (boolVP (decide ((IntKind.wrap .i64 (x15 + 1)) < (a_1.length : Int)))), .res (Log_e p_0 x16), .res (acc q18 23 32 (dC 32) x17)] a w at h
    clear β
    show Code.wp Tryd.prog _ _ a w
    refine cond_L h 4 rfl (fun hb29 => ?_) (fun hb29 => ?_)
    · replace hF := tt_of hb29 hF
      replace h := h.sub [0, 1, 2, 3, 5, 6] (by rfl)
      change SatL c [.slot 0 (eqVP p_0), .slot 1 (slVP (dC 32) a_1), .slot 5 (eqVP q18), .slot 6 (intVP .i64 x15), .res (Log_e p_0 x16), .res (acc q18 23 32 (dC 32) x17)] a w at h
      refine wp_skip ?_
      show Code.wp Tryd.prog _ _ a w
      refine wp_seq ?_
      refine wp_block ?_
      obtain ⟨hv30, hF⟩ := ite_some hF
      obtain ⟨hv31, hF⟩ := ite_some hF
      obtain ⟨r32, hr32, hF⟩ := bind_some hF
      obtain ⟨hv33, hF⟩ := ite_some hF
      refine region_do (n := 29) [.slot 14 100000 100000 (fun _ _ => (eqVP q18)),
      .slot 15 100000 100000 (fun _ _ => (eqVP p_0)),
      .slot 16 100000 100000 (fun _ _ => (slVP (dC 32) a_1)),
      .slot 17 100000 100000 (fun _ _ => (intVP .i64 x15)),
      .slot 18 100000 100000 (fun _ _ => (ppVP [bytesCk 32 (a_1.getD x15.toNat default)])),
      .slot 19 100000 100000 (fun _ _ => (aggVP [bytesCk 32 (a_1.getD x15.toNat default)])),
      .slot 20 100000 100000 (fun _ _ => (slVP (dC 32) a_1)),
      .slot 21 100000 100000 (fun _ _ => (intVP .i64 x15)),
      .slot 22 100000 100000 (fun _ _ => (intVP .i64 (IntKind.wrap .i64 (x15 + 1)))),
      .slot 23 100000 100000 (fun _ _ => (ppVP [bytesCk 32 (a_1.getD (IntKind.wrap .i64 (x15 + 1)).toNat default)])),
      .slot 24 100000 100000 (fun _ _ => (aggVP [bytesCk 32 (a_1.getD (IntKind.wrap .i64 (x15 + 1)).toNat default)])),
      .slot 25 100000 100000 (fun _ _ => (aggVP [bytesCk 32 r32.1])),
      .res 100000 100000 (fun _ _ => (Log_e p_0 r32.2)),
      .slot 26 100000 100000 (fun _ _ => (slVP (dC 32) [r32.1])),
      .slot 27 13 100000 (fun v1_ _ => (eqVP v1_)),
      .res 13 100000 (fun v1_ _ => (acc (v1_) 23 32 (dC 32) (x17 ++ [r32.1]))),
      .slot 5 13 100000 (fun v1_ _ => (eqVP v1_))] [0, 1, 2, 3, 4, 5, 6, 7, 8, 9, 10, 11, 11, 12, 13, 13, 14] [⟨[2], [], [6], [], some 14⟩, ⟨[0], [], [7], [], some 15⟩, ⟨[1], [], [8], [], some 16⟩, ⟨[3], [], [9], [], some 17⟩, ⟨[8, 9], [], [10], [2, 3], some 18⟩, ⟨[10], [], [11], [2, 3, 4], some 19⟩, ⟨[1], [], [12], [], some 20⟩, ⟨[3], [], [13], [], some 21⟩, ⟨[13], [], [14], [7], some 22⟩, ⟨[12, 14], [], [15], [6, 7, 8], some 23⟩, ⟨[15], [], [16], [6, 7, 8, 9], some 24⟩, ⟨[7, 11, 16], [4], [17, 18], [1, 2, 3, 4, 5, 6, 7, 8, 9, 10], some 25⟩, ⟨[17], [], [19], [1, 2, 3, 4, 5, 6, 7, 8, 9, 10, 11], some 26⟩, ⟨[6, 19], [5], [20, 21], [0, 1, 2, 3, 4, 5, 6, 7, 8, 9, 10, 11, 12], some 27⟩, ⟨[20], [2], [22], [0, 1, 2, 3, 4, 5, 6, 7, 8, 9, 10, 11, 12, 13], some 5⟩] [0, 1, 22, 3, 18, 21] mixed hn hG h (by kernel_rfl) ?_ ?_
      · exact ⟨⟨rfl, fun β => (GOk.plain (op_move (opt 0 rfl)) rfl)⟩, ⟨rfl, fun β => (GOk.plain (op_move (opt 0 rfl)) rfl)⟩, ⟨rfl, fun β => (GOk.plain (op_move (opt 0 rfl)) rfl)⟩, ⟨rfl, fun β => (GOk.plain (op_move (opt 0 rfl)) rfl)⟩, ⟨rfl, fun β => (GOk.plain (op_indexAddr_sl Tryd.underlying24 Tryd.sizeOf23 (lens_dC 32) (opt 0 rfl) (opt 1 rfl) hv30) rfl)⟩, ⟨rfl, fun β => (GOk.plain (op_load_pp [bytesCk 32 (a_1.getD x15.toNat default)] [] Tryd.isAgg23 Tryd.sizeOf23 (opt 0 rfl) rfl) rfl)⟩, ⟨rfl, fun β => (GOk.plain (op_move (opt 0 rfl)) rfl)⟩, ⟨rfl, fun β => (GOk.plain (op_move (opt 0 rfl)) rfl)⟩, ⟨rfl, fun β => (GOk.plain (op_bin bin_add (opt 0 rfl) (opc (ic (by decide)))) rfl)⟩, ⟨rfl, fun β => (GOk.plain (op_indexAddr_sl Tryd.underlying24 Tryd.sizeOf23 (lens_dC 32) (opt 0 rfl) (opt 1 rfl) hv31) rfl)⟩, ⟨rfl, fun β => (GOk.plain (op_load_pp [bytesCk 32 (a_1.getD (IntKind.wrap .i64 (x15 + 1)).toNat default)] [] Tryd.isAgg23 Tryd.sizeOf23 (opt 0 rfl) rfl) rfl)⟩, ⟨rfl, fun β => (GOk.plain (op_call Tryd.call71 (digest_Log_Two_ok hr32) ⟨(opt 0 rfl), (opc (ic (by decide))), (opt 1 rfl), (opt 2 rfl), trivial⟩) rfl)⟩, ⟨rfl, fun β => (GOk.plain (op_lit (xs := [.tmp 25]) (ys := [r32.1]) _ rfl Tryd.underlying24 Tryd.sizeOf23 Tryd.zeroValue23 rfl rfl (by decide) (by decide) ⟨⟨_, (opt 0 rfl), (cells_agg _)⟩, trivial⟩ (lens_dC 32)) rfl)⟩, ⟨rfl, fun β => (GOk.plain (op_append (i := Tryd.t23) Tryd.underlying24 Tryd.type23 rfl (lens_dC 32) (by decide) rfl (opt 0 rfl) (opt 1 rfl) hv33) rfl)⟩, ⟨rfl, fun β => (GOk.drop _ (GOk.plain (op_assign (V := (eqVP (β 13))) (opt 0 rfl)) rfl))⟩, trivial⟩
      clear h
      intro β a w h
      change SatL c [.slot 0 (eqVP p_0), .slot 1 (slVP (dC 32) a_1), .slot 5 (eqVP (β 13)), .slot 6 (intVP .i64 x15), .res (Log_e p_0 r32.2), .res (acc (β 13) 23 32 (dC 32) (x17 ++ [r32.1]))] a w at h
      generalize β 13 = p34 at h
      clear β
      show Code.wp Tryd.prog _ _ a w
      refine region_do (n := 29) [.slot 12 100000 100000 (fun _ _ => (intVP .i64 x15)),
      .slot 13 100000 100000 (fun _ _ => (intVP .i64 (IntKind.wrap .i64 (x15 + 2)))),
      .slot 6 100000 100000 (fun _ _ => (intVP .i64 (IntKind.wrap .i64 (x15 + 2))))] [0, 1, 2] [⟨[3], [], [6], [], some 12⟩, ⟨[6], [], [7], [0], some 13⟩, ⟨[7], [3], [8], [0, 1], some 6⟩] [0, 1, 2, 8, 4, 5] mixed hn hG h (by kernel_rfl) ?_ ?_
      · exact ⟨⟨rfl, fun β => (GOk.plain (op_move (opt 0 rfl)) rfl)⟩, ⟨rfl, fun β => (GOk.plain (op_bin bin_add (opt 0 rfl) (opc (ic (by decide)))) rfl)⟩, ⟨rfl, fun β => (GOk.drop _ (GOk.plain (op_assign (opt 0 rfl)) rfl))⟩, trivial⟩
      clear h
      intro β a w h
      change SatL c [.slot 0 (eqVP p_0), .slot 1 (slVP (dC 32) a_1), .slot 5 (eqVP p34), .slot 6 (intVP .i64 (IntKind.wrap .i64 (x15 + 2))), .res (Log_e p_0 r32.2), .res (acc p34 23 32 (dC 32) (x17 ++ [r32.1]))] a w at h
      clear β
      obtain rfl := Option.some.inj hF
      exact ⟨rfl, p34, h.sub [0, 1, 2, 3, 4, 5] (by rfl)⟩
    · replace hF := ff_of hb29 hF
      replace h := h.sub [0, 1, 2, 3, 5, 6] (by rfl)
      change SatL c [.slot 0 (eqVP p_0), .slot 1 (slVP (dC 32) a_1), .slot 5 (eqVP q18), .slot 6 (intVP .i64 x15), .res (Log_e p_0 x16), .res (acc q18 23 32 (dC 32) x17)] a w at h
      refine wp_exit ?_
      obtain rfl := Option.some.inj hF
      exact ⟨exit_ne _, rfl, q18, h.sub [2, 4, 5] (by rfl)⟩
  · clear hl36
    intro e a w hq
    cases cr35 with
    | ret r37 =>
      obtain ⟨rfl, hq⟩ := hq
      obtain rfl := Option.some.inj hF
      exact ⟨.inl rfl, hq⟩
    | next s38 =>
      obtain ⟨y39, y40, y41⟩ := s38
      obtain ⟨rfl, q18, h⟩ := hq
      change SatL c [.slot 5 (eqVP q18), .res (Log_e p_0 y40), .res (acc q18 23 32 (dC 32) y41)] a w at h
      refine inBlock_at ?_
      show Code.wp Tryd.prog _ _ a w
      refine wp_seq ?_
      refine region_do (n := 29) [.slot 28 100000 100000 (fun _ _ => (eqVP q18)),
      .slot 4 100000 100000 (fun _ _ => (eqVP q18))] [0, 1] [⟨[0], [], [3], [], some 28⟩, ⟨[3], [], [4], [0], some 4⟩] [4, 1, 2] mixed hn hG h (by kernel_rfl) ?_ ?_
      · exact ⟨⟨rfl, fun β => (GOk.plain (op_move (opt 0 rfl)) rfl)⟩, ⟨rfl, fun β => (GOk.plain (op_assign (opt 0 rfl)) rfl)⟩, trivial⟩
      clear h
      intro β a w h
      change SatL c [.slot 4 (eqVP q18), .res (Log_e p_0 y40), .res (acc q18 23 32 (dC 32) y41)] a w at h
      clear β
      show Code.wp Tryd.prog _ _ a w
      refine wp_ret ?_
      obtain rfl := Option.some.inj hF
      exact ⟨.inl rfl, ret1 h Tryd.results49 (r_acc 0 2 rfl rfl) [1] [(Log_e p_0 y40)] rfl rfl rfl⟩

def keys_Signer_Root.b1 (x6 : List (List UInt8)) (x7 : Option O_Log) : Option (Flow ((List UInt8) × (Option O_Log)) ((List (List UInt8)) × (Option O_Log))) := (if (decide ((1 : Int) < (x6.length : Int))) = true then ((keys_up x7 x6).bind fun r13 => some (.cont (r13.1, r13.2))) else some (.brk (x6, x7)))
def keys_Signer_Root (a_0 : S_keys_Signer) (L_1 : Option O_Log) : Option ((List UInt8) × (Option O_Log)) := (if (!decide ((a_0.f_Leaves.length : Int) = (16 : Int))) = true then some ((List.replicate 32 0), L_1) else ((loopN (fun s : (List (List UInt8)) × (Option O_Log) => keys_Signer_Root.b1 s.1 s.2) (((a_0.f_Leaves.length : Int) - 1 : Int).toNat + 2) (a_0.f_Leaves, L_1)).bind fun cr => match cr with | .ret r => some r | .next (y18, y19) => (if (0 : Int) ≤ 0 ∧ (0 : Int) < y18.length then some (y18.getD (0 : Int).toNat default, y19) else none)))
theorem keys_Signer_Root_ok {p_1 : Value} {a_0 : S_keys_Signer} {L_1 : Option O_Log} {r : (List UInt8) × (Option O_Log)} (hF : keys_Signer_Root a_0 L_1 = some r) : CallOk Tryd.prog KG 13 [(aggVP [bytesCk 32 a_0.f_Seed, one (intVP .i64 a_0.f_Next), one (slVP (dC 32) a_0.f_Leaves)]), (eqVP p_1)] [(Log_e p_1 L_1)] (fun _ => [Log_e p_1 r.2]) (aggVP [bytesCk 32 r.1]) := by
  refine CallOk.intro 22 Tryd.func13 rfl Tryd.ntmps13 (Nat.le_of_ble_eq_true rfl) ?_
  intro c a w hG hn h
  unfold keys_Signer_Root at hF
  change SatL c [.slot 0 (aggVP [bytesCk 32 a_0.f_Seed, one (intVP .i64 a_0.f_Next), one (slVP (dC 32) a_0.f_Leaves)]), .slot 1 (eqVP p_1), .res (Log_e p_1 L_1)] a w at h
  refine wp_seq ?_
  refine region_do (n := 22) [.slot 2 0 100000 (fun v1_ _ => (lpVP v1_ 0)),
      .res 0 100000 (fun v1_ _ => (lb (v1_) 27 [bytesCk 32 a_0.f_Seed, one (intVP .i64 a_0.f_Next), one (slVP (dC 32) a_0.f_Leaves)])),
      .slot 4 1 100000 (fun v1_ _ => (lpVP v1_ 0)),
      .res 1 100000 (fun v1_ _ => (lb (v1_) 23 [bytesCk 32 (List.replicate 32 0)]))] [0, 0, 1, 1] [⟨[0], [], [3, 4], [], some 2⟩, ⟨[], [], [5, 6], [0], some 4⟩] [1, 3, 5, 2, 4, 6] mixed hn hG h (by kernel_rfl) ?_ ?_
  · exact ⟨⟨rfl, fun β => (GOk.plain (op_box (opt 0 rfl) (cells_agg _)) rfl)⟩, ⟨rfl, fun β => (GOk.plain (op_alloc Tryd.zeroValue23 z23) rfl)⟩, trivial⟩
  clear h
  intro β a w h
  change SatL c [.slot 1 (eqVP p_1), .slot 2 (lpVP (β 0) 0), .slot 4 (lpVP (β 1) 0), .res (Log_e p_1 L_1), .res (lb (β 0) 27 [bytesCk 32 a_0.f_Seed, one (intVP .i64 a_0.f_Next), one (slVP (dC 32) a_0.f_Leaves)]), .res (lb (β 1) 23 [bytesCk 32 (List.replicate 32 0)])] a w at h
  generalize β 0 = p1 at h
  generalize β 1 = p2 at h
  clear β
  show Code.wp Tryd.prog _ _ a w
  refine wp_seq ?_
  refine wp_seq ?_
  refine region_do (n := 22) [.slot 6 100000 100000 (fun _ _ => (lpVP p1 33)),
      .slot 7 100000 100000 (fun _ _ => (slVP (dC 32) a_0.f_Leaves)),
      .slot 8 100000 100000 (fun _ _ => (intVP .i64 (a_0.f_Leaves.length : Int))),
      .slot 9 100000 100000 (fun _ _ => (boolVP (!decide ((a_0.f_Leaves.length : Int) = (16 : Int)))))] [0, 1, 2, 3] [⟨[1], [], [6], [], some 6⟩, ⟨[6, 4], [], [7], [0], some 7⟩, ⟨[7], [], [8], [0, 1], some 8⟩, ⟨[8], [], [9], [0, 1, 2], some 9⟩] [0, 1, 2, 9, 3, 4, 5] mixed hn hG h (by kernel_rfl) ?_ ?_
  · exact ⟨⟨rfl, fun β => (GOk.plain (op_fieldAddr_lbm (p := p1) (n := 1) 0 33 Tryd.underlying27 rfl Tryd.sizeOf24 (by decide) (opt 0 rfl) rfl) rfl)⟩, ⟨rfl, fun β => (GOk.plain (op_load_lb1 [bytesCk 32 a_0.f_Seed, one (intVP .i64 a_0.f_Next)] [] 1 Tryd.isAgg24 (opt 0 rfl) rfl rfl) rfl)⟩, ⟨rfl, fun β => (GOk.plain (op_len_sl Tryd.underlying24 (opt 0 rfl)) rfl)⟩, ⟨rfl, fun β => (GOk.plain (op_bin bin_neq (opt 0 rfl) (opc (ic (by decide)))) rfl)⟩, trivial⟩
  clear h
  intro β a w h
  change SatL c [.slot 1 (eqVP p_1), .slot 2 (lpVP p1 0), .slot 4 (lpVP p2 0), .slot 9 (boolVP (!decide ((a_0.f_Leaves.length : Int) = (16 : Int)))), .res (Log_e p_1 L_1), .res (lb p1 27 [bytesCk 32 a_0.f_Seed, one (intVP .i64 a_0.f_Next), one (slVP (dC 32) a_0.f_Leaves)]), .res (lb p2 23 [bytesCk 32 (List.replicate 32 0)])] a w at h
  clear β
  show Code.wp Tryd.prog _ _ a w
  refine cond_L h 3 rfl (fun hb3 => ?_) (fun hb3 => ?_)
  · replace hF := tt_of hb3 hF
    replace h := h.sub [2, 4, 6] (by rfl)
    change SatL c [.slot 4 (lpVP p2 0), .res (Log_e p_1 L_1), .res (lb p2 23 [bytesCk 32 (List.replicate 32 0)])] a w at h
    refine wp_seq ?_
    refine region_do (n := 22) [.slot 10 100000 100000 (fun _ _ => (aggVP [bytesCk 32 (List.replicate 32 0)])),
      .res 100000 100000 (fun _ _ => (lb p2 23 [bytesCk 32 (List.replicate 32 0)]))] [0, 1] [⟨[], [], [3], [], some 10⟩, ⟨[0, 3], [2], [4], [0], none⟩] [0, 1, 4] mixed hn hG h (by kernel_rfl) ?_ ?_
    · exact ⟨⟨rfl, fun β => (GOk.plain (build0 Tryd.zeroValue23 Tryd.underlying23 Tryd.sizeOf5 z23) rfl)⟩, ⟨rfl, fun β => (GOk.plain (op_store_lb [] [bytesCk 32 (List.replicate 32 0)] [] [bytesCk 32 (List.replicate 32 0)] Tryd.sizeOf23 (opt 0 rfl) (opt 1 rfl) (cells_agg _) rfl rfl rfl) rfl)⟩, trivial⟩
    clear h
    intro β a w h
    change SatL c [.slot 4 (lpVP p2 0), .res (Log_e p_1 L_1), .res (lb p2 23 [bytesCk 32 (List.replicate 32 0)])] a w at h
    clear β
    show Code.wp Tryd.prog _ _ a w
    refine wp_ret ?_
    obtain rfl := Option.some.inj hF
    exact ⟨.inl rfl, ret1 h Tryd.results13 (r_cell 0 2 rfl rfl Tryd.isAgg23 Tryd.sizeOf23 rfl) [1] [(Log_e p_1 L_1)] rfl rfl rfl⟩
  · replace hF := ff_of hb3 hF
    replace h := h.sub [0, 1, 2, 4, 5, 6] (by rfl)
    change SatL c [.slot 1 (eqVP p_1), .slot 2 (lpVP p1 0), .slot 4 (lpVP p2 0), .res (Log_e p_1 L_1), .res (lb p1 27 [bytesCk 32 a_0.f_Seed, one (intVP .i64 a_0.f_Next), one (slVP (dC 32) a_0.f_Leaves)]), .res (lb p2 23 [bytesCk 32 (List.replicate 32 0)])] a w at h
    refine wp_skip ?_
    show Code.wp Tryd.prog _ _ a w
    refine wp_seq ?_
    refine region_do (n := 22) [.slot 11 100000 100000 (fun _ _ => (lpVP p1 33)),
      .slot 12 100000 100000 (fun _ _ => (slVP (dC 32) a_0.f_Leaves)),
      .slot 5 100000 100000 (fun _ _ => (slVP (dC 32) a_0.f_Leaves))] [0, 1, 2] [⟨[1], [], [6], [], some 11⟩, ⟨[6, 4], [], [7], [0], some 12⟩, ⟨[7], [], [8], [0, 1], some 5⟩] [0, 2, 8, 3, 5] mixed hn hG h (by kernel_rfl) ?_ ?_
    · exact ⟨⟨rfl, fun β => (GOk.plain (op_fieldAddr_lbm (p := p1) (n := 1) 0 33 Tryd.underlying27 rfl Tryd.sizeOf24 (by decide) (opt 0 rfl) rfl) rfl)⟩, ⟨rfl, fun β => (GOk.plain (op_load_lb1 [bytesCk 32 a_0.f_Seed, one (intVP .i64 a_0.f_Next)] [] 1 Tryd.isAgg24 (opt 0 rfl) rfl rfl) rfl)⟩, ⟨rfl, fun β => (GOk.plain (op_assign (opt 0 rfl)) rfl)⟩, trivial⟩
    clear h
    intro β a w h
    change SatL c [.slot 1 (eqVP p_1), .slot 4 (lpVP p2 0), .slot 5 (slVP (dC 32) a_0.f_Leaves), .res (Log_e p_1 L_1), .res (lb p2 23 [bytesCk 32 (List.replicate 32 0)])] a w at h
    clear β
    show Code.wp Tryd.prog _ _ a w
    refine wp_seq ?_
    refine wp_block ?_
    obtain ⟨cr14, hl15, hF⟩ := bind_some hF
    refine wp_mono (wp_loopN (R := (List UInt8) × (Option O_Log)) (S := (List (List UInt8)) × (Option O_Log)) (fun s a w => SatL c [.slot 1 (eqVP p_1), .slot 4 (lpVP p2 0), .slot 5 (slVP (dC 32) s.1), .res (Log_e p_1 s.2), .res (lb p2 23 [bytesCk 32 (List.replicate 32 0)])] a w) (fun res e a w => match res with | .next s => e = .exit 0 ∧ SatL c [.slot 4 (lpVP p2 0), .slot 5 (slVP (dC 32) s.1), .res (Log_e p_1 s.2), .res (lb p2 23 [bytesCk 32 (List.replicate 32 0)])] a w | .ret r => e = .ret ∧ RetOk Tryd.prog Tryd.f13 c (aggVP [bytesCk 32 r.1]) (fun _ => [Log_e p_1 r.2]) a w) ?_ _ (a_0.f_Leaves, L_1) _ _ _ (h.sub [0, 1, 2, 3, 4] (by rfl)) hl15) ?_
    · clear hl15 hF h
      intro s a w o h hF
      obtain ⟨x6, x7⟩ := s
      change keys_Signer_Root.b1 x6 x7 = some o at hF
      unfold keys_Signer_Root.b1 at hF
      change SatL c [.slot 1 (eqVP p_1), .slot 4 (lpVP p2 0), .slot 5 (slVP (dC 32) x6), .res (Log_e p_1 x7), .res (lb p2 23 [bytesCk 32 (List.replicate 32 0)])] a w at h
      refine wp_seq ?_
      refine wp_seq ?_
      refine region_do (n := 22) [.slot 13 100000 100000 (fun _ _ => (slVP (dC 32) x6)),
      .slot 14 100000 100000 (fun _ _ => (intVP .i64 (x6.length : Int))),
      .slot 15 100000 100000 (fun _ _ => (boolVP (decide ((1 : Int) < (x6.length : Int)))))] [0, 1, 2] [⟨[2], [], [5], [], some 13⟩, ⟨[5], [], [6], [0], some 14⟩, ⟨[6], [], [7], [0, 1], some 15⟩] [0, 1, 2, 7, 3, 4] mixed hn hG h (by kernel_rfl) ?_ ?_
      · exact ⟨⟨rfl, fun β => (GOk.plain (op_move (opt 0 rfl)) rfl)⟩, ⟨rfl, fun β => (GOk.plain (op_len_sl Tryd.underlying24 (opt 0 rfl)) rfl)⟩, ⟨rfl, fun β => (GOk.plain (op_bin bin_gtr (opt 0 rfl) (opc (ic (by decide)))) rfl)⟩, trivial⟩
      clear h
      intro β a w h
      change SatL c [.slot 1 (eqVP p_1), .slot 4 (lpVP p2 0), .slot 5 (slVP (dC 32) x6), .slot 15 (boolVP (decide ((1 : Int) < (x6.length : Int)))), .res (Log_e p_1 x7), .res (lb p2 23 [bytesCk 32 (List.replicate 32 0)])] a w at h
      clear β
      show Code.wp Tryd.prog _ _ a w
      refine cond_L h 3 rfl (fun hb12 => ?_) (fun hb12 => ?_)
      · replace hF := tt_of hb12 hF
        replace h := h.sub [0, 1, 2, 4, 5] (by rfl)
        change SatL c [.slot 1 (eqVP p_1), .slot 4 (lpVP p2 0), .slot 5 (slVP (dC 32) x6), .res (Log_e p_1 x7), .res (lb p2 23 [bytesCk 32 (List.replicate 32 0)])] a w at h
        refine wp_skip ?_
        show Code.wp Tryd.prog _ _ a w
        refine wp_block ?_
        obtain ⟨r13, hr13, hF⟩ := bind_some hF
        refine region_do (n := 22) [.slot 16 100000 100000 (fun _ _ => (eqVP p_1)),
      .slot 17 100000 100000 (fun _ _ => (slVP (dC 32) x6)),
      .slot 18 100000 100000 (fun _ _ => (slVP (dC 32) r13.1)),
      .res 100000 100000 (fun _ _ => (Log_e p_1 r13.2)),
      .slot 5 100000 100000 (fun _ _ => (slVP (dC 32) r13.1))] [0, 1, 2, 2, 3] [⟨[0], [], [5], [], some 16⟩, ⟨[2], [], [6], [0], some 17⟩, ⟨[5, 6], [3], [7, 8], [0, 1], some 18⟩, ⟨[7], [2], [9], [0, 1, 2], some 5⟩] [0, 1, 9, 4, 8] mixed hn hG h (by kernel_rfl) ?_ ?_
        · exact ⟨⟨rfl, fun β => (GOk.plain (op_move (opt 0 rfl)) rfl)⟩, ⟨rfl, fun β => (GOk.plain (op_move (opt 0 rfl)) rfl)⟩, ⟨rfl, fun β => (GOk.plain (op_call Tryd.call49 (keys_up_ok hr13) ⟨(opt 0 rfl), (opt 1 rfl), trivial⟩) rfl)⟩, ⟨rfl, fun β => (GOk.drop _ (GOk.plain (op_assign (opt 0 rfl)) rfl))⟩, trivial⟩
        clear h
        intro β a w h
        change SatL c [.slot 1 (eqVP p_1), .slot 4 (lpVP p2 0), .slot 5 (slVP (dC 32) r13.1), .res (lb p2 23 [bytesCk 32 (List.replicate 32 0)]), .res (Log_e p_1 r13.2)] a w at h
        clear β
        obtain rfl := Option.some.inj hF
        exact ⟨rfl, h.sub [0, 1, 2, 4, 3] (by rfl)⟩
      · replace hF := ff_of hb12 hF
        replace h := h.sub [0, 1, 2, 4, 5] (by rfl)
        change SatL c [.slot 1 (eqVP p_1), .slot 4 (lpVP p2 0), .slot 5 (slVP (dC 32) x6), .res (Log_e p_1 x7), .res (lb p2 23 [bytesCk 32 (List.replicate 32 0)])] a w at h
        refine wp_exit ?_
        obtain rfl := Option.some.inj hF
        exact ⟨exit_ne _, rfl, h.sub [1, 2, 3, 4] (by rfl)⟩
    · clear hl15
      intro e a w hq
      cases cr14 with
      | ret r16 =>
        obtain ⟨rfl, hq⟩ := hq
        obtain rfl := Option.some.inj hF
        exact ⟨.inl rfl, hq⟩
      | next s17 =>
        obtain ⟨y18, y19⟩ := s17
        obtain ⟨rfl, h⟩ := hq
        change SatL c [.slot 4 (lpVP p2 0), .slot 5 (slVP (dC 32) y18), .res (Log_e p_1 y19), .res (lb p2 23 [bytesCk 32 (List.replicate 32 0)])] a w at h
        refine inBlock_at ?_
        show Code.wp Tryd.prog _ _ a w
        refine wp_seq ?_
        obtain ⟨hv20, hF⟩ := ite_some hF
        refine region_do (n := 22) [.slot 19 100000 100000 (fun _ _ => (slVP (dC 32) y18)),
      .slot 20 100000 100000 (fun _ _ => (ppVP [bytesCk 32 (y18.getD (0 : Int).toNat default)])),
      .slot 21 100000 100000 (fun _ _ => (aggVP [bytesCk 32 (y18.getD (0 : Int).toNat default)])),
      .res 100000 100000 (fun _ _ => (lb p2 23 [bytesCk 32 (y18.getD (0 : Int).toNat default)]))] [0, 1, 2, 3] [⟨[1], [], [4], [], some 19⟩, ⟨[4], [], [5], [0], some 20⟩, ⟨[5], [], [6], [0, 1], some 21⟩, ⟨[0, 6], [3], [7], [0, 1, 2], none⟩] [0, 2, 7] mixed hn hG h (by kernel_rfl) ?_ ?_
        · exact ⟨⟨rfl, fun β => (GOk.plain (op_move (opt 0 rfl)) rfl)⟩, ⟨rfl, fun β => (GOk.plain (op_indexAddr_sl Tryd.underlying24 Tryd.sizeOf23 (lens_dC 32) (opt 0 rfl) (opc (ic (by decide))) hv20) rfl)⟩, ⟨rfl, fun β => (GOk.plain (op_load_pp [bytesCk 32 (y18.getD (0 : Int).toNat default)] [] Tryd.isAgg23 Tryd.sizeOf23 (opt 0 rfl) rfl) rfl)⟩, ⟨rfl, fun β => (GOk.plain (op_store_lb [] [bytesCk 32 (List.replicate 32 0)] [] [bytesCk 32 (y18.getD (0 : Int).toNat default)] Tryd.sizeOf23 (opt 0 rfl) (opt 1 rfl) (cells_agg _) rfl rfl rfl) rfl)⟩, trivial⟩
        clear h
        intro β a w h
        change SatL c [.slot 4 (lpVP p2 0), .res (Log_e p_1 y19), .res (lb p2 23 [bytesCk 32 (y18.getD (0 : Int).toNat default)])] a w at h
        clear β
        show Code.wp Tryd.prog _ _ a w
        refine wp_ret ?_
        obtain rfl := Option.some.inj hF
        exact ⟨.inl rfl, ret1 h Tryd.results13 (r_cell 0 2 rfl rfl Tryd.isAgg23 Tryd.sizeOf23 rfl) [1] [(Log_e p_1 y19)] rfl rfl rfl⟩

def lamport_Bit.j1 (a_0 : List UInt8) (a_1 : Int) (x2 : Bool) : Option Int := (if x2 = true then some 0 else (if (0 : Int) ≤ IntKind.wrap .i64 (a_1.tdiv 8) ∧ IntKind.wrap .i64 (a_1.tdiv 8) < 32 then (if (0 : Int) ≤ IntKind.wrap .i64 (7 - (a_1.tmod 8)) then some (bits .and .i64 (IntKind.wrap .i64 (shr .u8 ((a_0.getD (IntKind.wrap .i64 (a_1.tdiv 8)).toNat 0).toNat) (IntKind.wrap .i64 (7 - (a_1.tmod 8))))) 1) else none) else none))
def lamport_Bit (a_0 : List UInt8) (a_1 : Int) : Option Int := (if (decide (a_1 < (0 : Int))) = true then lamport_Bit.j1 a_0 a_1 true else lamport_Bit.j1 a_0 a_1 (decide ((256 : Int) ≤ a_1)))
theorem lamport_Bit_ok {a_0 : List UInt8} {a_1 : Int} {r : Int} (hF : lamport_Bit a_0 a_1 = some r) : CallOk Tryd.prog KG 72 [(aggVP [bytesCk 32 a_0]), (intVP .i64 a_1)] [] (fun _ => []) (intVP .i64 r) := by
  refine CallOk.intro 21 Tryd.func72 rfl Tryd.ntmps72 (Nat.le_of_ble_eq_true rfl) ?_
  intro c a w hG hn h
  unfold lamport_Bit at hF
  change SatL c [.slot 0 (aggVP [bytesCk 32 a_0]), .slot 1 (intVP .i64 a_1)] a w at h
  refine wp_seq ?_
  refine region_do (n := 21) [.slot 2 0 100000 (fun v1_ _ => (lpVP v1_ 0)),
      .res 0 100000 (fun v1_ _ => (lb (v1_) 23 [bytesCk 32 a_0])),
      .slot 4 100000 100000 (fun _ _ => (intVP .i64 0))] [0, 0, 1] [⟨[0], [], [2, 3], [], some 2⟩, ⟨[], [], [4], [0], some 4⟩] [1, 2, 3] mixed hn hG h (by kernel_rfl) ?_ ?_
  · exact ⟨⟨rfl, fun β => (GOk.plain (op_box (opt 0 rfl) (cells_agg _)) rfl)⟩, ⟨rfl, fun β => (GOk.plain (op_assign (opc (ic (by decide)))) rfl)⟩, trivial⟩
  clear h
  intro β a w h
  change SatL c [.slot 1 (intVP .i64 a_1), .slot 2 (lpVP (β 0) 0), .res (lb (β 0) 23 [bytesCk 32 a_0])] a w at h
  generalize β 0 = p1 at h
  clear β
  show Code.wp Tryd.prog _ _ a w
  refine wp_seq ?_
  refine wp_seq ?_
  refine wp_cut (fun a w => ∃ (x2 : Bool), lamport_Bit.j1 a_0 a_1 x2 = some r ∧ SatL c [.slot 1 (intVP .i64 a_1), .slot 2 (lpVP p1 0), .slot 10 (boolVP x2), .res (lb p1 23 [bytesCk 32 a_0])] a w) ?_ ?_
  · rcases Bool.eq_false_or_eq_true (decide (a_1 < (0 : Int))) with hb6 | hb6
    · replace hF := tt_of hb6 hF
      refine region_do (n := 21) [.slot 5 100000 100000 (fun _ _ => (intVP .i64 a_1)),
      .slot 6 100000 100000 (fun _ _ => (boolVP (decide (a_1 < (0 : Int))))),
      .slot 7 100000 100000 (fun _ _ => (boolVP (decide (a_1 < (0 : Int))))),
      .slot 8 100000 100000 (fun _ _ => (eqVP undef)),
      .slot 9 100000 100000 (fun _ _ => (eqVP undef)),
      .slot 10 100000 100000 (fun _ _ => (boolVP true))] [0, 1, 2, 3, 4, 5] [⟨[0], [], [3], [], some 5⟩, ⟨[3], [], [4], [0], some 6⟩, ⟨[4], [], [5], [0, 1], some 7⟩, ⟨[5], [], [6], [0, 1, 2], some 8⟩, ⟨[5], [], [7], [0, 1, 2, 3], some 9⟩, ⟨[5], [], [8], [0, 1, 2, 3, 4], some 10⟩] [0, 1, 8, 2] mixed hn hG h (by kernel_rfl) ?_ ?_
      · exact ⟨⟨rfl, fun β => (GOk.plain (op_move (opt 0 rfl)) rfl)⟩, ⟨rfl, fun β => (GOk.plain (op_bin bin_lss (opt 0 rfl) (opc (ic (by decide)))) rfl)⟩, ⟨rfl, fun β => (GOk.plain (op_move (opt 0 rfl)) rfl)⟩, ⟨rfl, fun β => (GOk.off_v (want := false) hb6 rfl rfl rfl rfl)⟩, ⟨rfl, fun β => (GOk.off_v (want := false) hb6 rfl rfl rfl rfl)⟩, ⟨rfl, fun β => (GOk.plain (op_pick_t hb6 (opt 0 rfl) (opc (bc _))) rfl)⟩, trivial⟩
      clear h
      intro β a w h
      change SatL c [.slot 1 (intVP .i64 a_1), .slot 2 (lpVP p1 0), .slot 10 (boolVP true), .res (lb p1 23 [bytesCk 32 a_0])] a w at h
      clear β
      exact ⟨true, hF, h.sub [0, 1, 2, 3] (by rfl)⟩
    · replace hF := ff_of hb6 hF
      refine region_do (n := 21) [.slot 5 100000 100000 (fun _ _ => (intVP .i64 a_1)),
      .slot 6 100000 100000 (fun _ _ => (boolVP (decide (a_1 < (0 : Int))))),
      .slot 7 100000 100000 (fun _ _ => (boolVP (decide (a_1 < (0 : Int))))),
      .slot 8 100000 100000 (fun _ _ => (intVP .i64 a_1)),
      .slot 9 100000 100000 (fun _ _ => (boolVP (decide ((256 : Int) ≤ a_1)))),
      .slot 10 100000 100000 (fun _ _ => (boolVP (decide ((256 : Int) ≤ a_1))))] [0, 1, 2, 3, 4, 5] [⟨[0], [], [3], [], some 5⟩, ⟨[3], [], [4], [0], some 6⟩, ⟨[4], [], [5], [0, 1], some 7⟩, ⟨[5, 0], [], [6], [0, 1, 2], some 8⟩, ⟨[5, 6], [], [7], [0, 1, 2, 3], some 9⟩, ⟨[5, 7], [], [8], [0, 1, 2, 3, 4], some 10⟩] [0, 1, 8, 2] mixed hn hG h (by kernel_rfl) ?_ ?_
      · exact ⟨⟨rfl, fun β => (GOk.plain (op_move (opt 0 rfl)) rfl)⟩, ⟨rfl, fun β => (GOk.plain (op_bin bin_lss (opt 0 rfl) (opc (ic (by decide)))) rfl)⟩, ⟨rfl, fun β => (GOk.plain (op_move (opt 0 rfl)) rfl)⟩, ⟨rfl, fun β => (GOk.on_eq hb6 rfl rfl rfl (op_move (opt 0 rfl)))⟩, ⟨rfl, fun β => (GOk.on_eq hb6 rfl rfl rfl (op_bin bin_geq (opt 0 rfl) (opc (ic (by decide)))))⟩, ⟨rfl, fun β => (GOk.plain (op_pick_f hb6 (opt 0 rfl) (opt 1 rfl)) rfl)⟩, trivial⟩
      clear h
      intro β a w h
      change SatL c [.slot 1 (intVP .i64 a_1), .slot 2 (lpVP p1 0), .slot 10 (boolVP (decide ((256 : Int) ≤ a_1))), .res (lb p1 23 [bytesCk 32 a_0])] a w at h
      clear β
      exact ⟨decide ((256 : Int) ≤ a_1), hF, h.sub [0, 1, 2, 3] (by rfl)⟩
  · clear h hF
    rintro a w ⟨x2, hF, h⟩
    unfold lamport_Bit.j1 at hF
    show Code.wp Tryd.prog _ _ a w
    refine cond_L h 2 rfl (fun hb3 => ?_) (fun hb3 => ?_)
    · replace hF := tt_of hb3 hF
      replace h := h.sub [] (by rfl)
      change SatL c [] a w at h
      refine wp_seq ?_
      refine region_do (n := 21) [.slot 4 100000 100000 (fun _ _ => (intVP .i64 0))] [0] [⟨[], [], [0], [], some 4⟩] [0] mixed hn hG h (by kernel_rfl) ?_ ?_
      · exact ⟨⟨rfl, fun β => (GOk.plain (op_assign (opc (ic (by decide)))) rfl)⟩, trivial⟩
      clear h
      intro β a w h
      change SatL c [.slot 4 (intVP .i64 0)] a w at h
      clear β
      show Code.wp Tryd.prog _ _ a w
      refine wp_ret ?_
      obtain rfl := Option.some.inj hF
      exact ⟨.inl rfl, ret1 h Tryd.results72 (r_tmp 0 rfl) [] [] rfl rfl rfl⟩
    · replace hF := ff_of hb3 hF
      replace h := h.sub [0, 1, 3] (by rfl)
      change SatL c [.slot 1 (intVP .i64 a_1), .slot 2 (lpVP p1 0), .res (lb p1 23 [bytesCk 32 a_0])] a w at h
      refine wp_skip ?_
      show Code.wp Tryd.prog _ _ a w
      refine wp_seq ?_
      obtain ⟨hv4, hF⟩ := ite_some hF
      obtain ⟨hv5, hF⟩ := ite_some hF
      refine region_do (n := 21) [.slot 11 100000 100000 (fun _ _ => (intVP .i64 a_1)),
      .slot 12 100000 100000 (fun _ _ => (intVP .i64 (IntKind.wrap .i64 (a_1.tdiv 8)))),
      .slot 13 100000 100000 (fun _ _ => (lpVP p1 (0 + (IntKind.wrap .i64 (a_1.tdiv 8)).toNat * 1))),
      .slot 14 100000 100000 (fun _ _ => (intVP .u8 ((a_0.getD (IntKind.wrap .i64 (a_1.tdiv 8)).toNat 0).toNat))),
      .slot 15 100000 100000 (fun _ _ => (intVP .i64 a_1)),
      .slot 16 100000 100000 (fun _ _ => (intVP .i64 (a_1.tmod 8))),
      .slot 17 100000 100000 (fun _ _ => (intVP .i64 (IntKind.wrap .i64 (7 - (a_1.tmod 8))))),
      .slot 18 100000 100000 (fun _ _ => (intVP .u8 (shr .u8 ((a_0.getD (IntKind.wrap .i64 (a_1.tdiv 8)).toNat 0).toNat) (IntKind.wrap .i64 (7 - (a_1.tmod 8)))))),
      .slot 19 100000 100000 (fun _ _ => (intVP .i64 (IntKind.wrap .i64 (shr .u8 ((a_0.getD (IntKind.wrap .i64 (a_1.tdiv 8)).toNat 0).toNat) (IntKind.wrap .i64 (7 - (a_1.tmod 8))))))),
      .slot 20 100000 100000 (fun _ _ => (intVP .i64 (bits .and .i64 (IntKind.wrap .i64 (shr .u8 ((a_0.getD (IntKind.wrap .i64 (a_1.tdiv 8)).toNat 0).toNat) (IntKind.wrap .i64 (7 - (a_1.tmod 8))))) 1))),
      .slot 4 100000 100000 (fun _ _ => (intVP .i64 (bits .and .i64 (IntKind.wrap .i64 (shr .u8 ((a_0.getD (IntKind.wrap .i64 (a_1.tdiv 8)).toNat 0).toNat) (IntKind.wrap .i64 (7 - (a_1.tmod 8))))) 1)))] [0, 1, 2, 3, 4, 5, 6, 7, 8, 9, 10] [⟨[0], [], [3], [], some 11⟩, ⟨[3], [], [4], [0], some 12⟩, ⟨[1, 4], [], [5], [0, 1], some 13⟩, ⟨[5, 2], [], [6], [0, 1, 2], some 14⟩, ⟨[0], [], [7], [0, 1, 2, 3], some 15⟩, ⟨[7], [], [8], [0, 1, 2, 3, 4], some 16⟩, ⟨[8], [], [9], [0, 1, 2, 3, 4, 5], some 17⟩, ⟨[6, 9], [], [10], [0, 1, 2, 3, 4, 5, 6], some 18⟩, ⟨[10], [], [11], [0, 1, 2, 3, 4, 5, 6, 7], some 19⟩, ⟨[11], [], [12], [0, 1, 2, 3, 4, 5, 6, 7, 8], some 20⟩, ⟨[12], [], [13], [0, 1, 2, 3, 4, 5, 6, 7, 8, 9], some 4⟩] [13] mixed hn hG h (by kernel_rfl) ?_ ?_
      · exact ⟨⟨rfl, fun β => (GOk.plain (op_move (opt 0 rfl)) rfl)⟩, ⟨rfl, fun β => (GOk.plain (op_bin (bin_quo (by decide)) (opt 0 rfl) (opc (ic (by decide)))) rfl)⟩, ⟨rfl, fun β => (GOk.plain (op_indexAddr_lb Tryd.underlying23 Tryd.sizeOf5 (opt 0 rfl) (opt 1 rfl) hv4) rfl)⟩, ⟨rfl, fun β => (GOk.plain (op_load_lbB (i := IntKind.wrap .i64 (a_1.tdiv 8)) [] [] 1 Tryd.isAgg5 (opt 0 rfl) rfl rfl hv4) rfl)⟩, ⟨rfl, fun β => (GOk.plain (op_move (opt 0 rfl)) rfl)⟩, ⟨rfl, fun β => (GOk.plain (op_bin (bin_rem (by decide)) (opt 0 rfl) (opc (ic (by decide)))) rfl)⟩, ⟨rfl, fun β => (GOk.plain (op_bin bin_sub (opc (ic (by decide))) (opt 0 rfl)) rfl)⟩, ⟨rfl, fun β => (GOk.plain (op_bin (bin_shr hv5) (opt 0 rfl) (opt 1 rfl)) rfl)⟩, ⟨rfl, fun β => (GOk.plain (op_convert_int Tryd.underlying5 Tryd.underlying3 (opt 0 rfl)) rfl)⟩, ⟨rfl, fun β => (GOk.plain (op_bin bin_and (opt 0 rfl) (opc (ic (by decide)))) rfl)⟩, ⟨rfl, fun β => (GOk.plain (op_assign (opt 0 rfl)) rfl)⟩, trivial⟩
      clear h
      intro β a w h
      change SatL c [.slot 4 (intVP .i64 (bits .and .i64 (IntKind.wrap .i64 (shr .u8 ((a_0.getD (IntKind.wrap .i64 (a_1.tdiv 8)).toNat 0).toNat) (IntKind.wrap .i64 (7 - (a_1.tmod 8))))) 1))] a w at h
      clear β
      show Code.wp Tryd.prog _ _ a w
      refine wp_ret ?_
      obtain rfl := Option.some.inj hF
      exact ⟨.inl rfl, ret1 h Tryd.results72 (r_tmp 0 rfl) [] [] rfl rfl rfl⟩

def lamport_Sign.b1 (a_1 : List UInt8) (a_2 : Int) (a_3 : List UInt8) (x25 : Int) (x26 : Option O_Log) (x27 : List (List UInt8)) (x29 : List (List UInt8)) : Option (Flow ((List (List UInt8)) × (List (List UInt8)) × (Option O_Log)) (Int × (Option O_Log) × (List (List UInt8)) × (List (List UInt8)))) := (if (decide (x25 < (32 : Int))) = true then ((lamport_Bit a_3 x25).bind fun r47 => ((lamport_Secret x26 a_1 a_2 x25 r47).bind fun r48 => (if x27.length + [r48.1].length ≤ mxl ∧ (x27.length + [r48.1].length) * 32 ≤ 140737488355328 then ((lamport_Secret r48.2 a_1 a_2 x25 (IntKind.wrap .i64 (1 - r47))).bind fun r51 => ((lamport_Public r51.2 r51.1).bind fun r52 => (if x29.length + [r52.1].length ≤ mxl ∧ (x29.length + [r52.1].length) * 32 ≤ 140737488355328 then some (.cont (IntKind.wrap .i64 (x25 + 1), r52.2, x27 ++ [r48.1], x29 ++ [r52.1])) else none))) else none))) else some (.brk (x25, x26, x27, x29)))
def lamport_Sign (L_0 : Option O_Log) (a_1 : List UInt8) (a_2 : Int) (a_3 : List UInt8) : Option ((List (List UInt8)) × (List (List UInt8)) × (Option O_Log)) := ((loopN (fun s : Int × (Option O_Log) × (List (List UInt8)) × (List (List UInt8)) => lamport_Sign.b1 a_1 a_2 a_3 s.1 s.2.1 s.2.2.1 s.2.2.2) ((32 - 0 : Int).toNat + 2) (0, L_0, [], [])).bind fun cr => match cr with | .ret r => some r | .next (y59, y60, y61, y62) => some (y61, y62, y60))
theorem lamport_Sign_ok {p_0 : Value} {L_0 : Option O_Log} {a_1 : List UInt8} {a_2 : Int} {a_3 : List UInt8} {r : (List (List UInt8)) × (List (List UInt8)) × (Option O_Log)} (hF : lamport_Sign L_0 a_1 a_2 a_3 = some r) : CallOk Tryd.prog KG 51 [(eqVP p_0), (aggVP [bytesCk 32 a_1]), (intVP .i64 a_2), (aggVP [bytesCk 32 a_3])] [(Log_e p_0 L_0)] (fun _ => [Log_e p_0 r.2.2]) (tupVP [(slVP (dC 32) r.1), (slVP (dC 32) r.2.1)]) := by
  refine CallOk.intro 44 Tryd.func51 rfl Tryd.ntmps51 (Nat.le_of_ble_eq_true rfl) ?_
  intro c a w hG hn h
  unfold lamport_Sign at hF
  change SatL c [.slot 0 (eqVP p_0), .slot 1 (aggVP [bytesCk 32 a_1]), .slot 2 (intVP .i64 a_2), .slot 3 (aggVP [bytesCk 32 a_3]), .res (Log_e p_0 L_0)] a w at h
  refine wp_seq ?_
  refine region_do (n := 44) [.slot 5 0 100000 (fun v1_ _ => (lpVP v1_ 0)),
      .res 0 100000 (fun v1_ _ => (lb (v1_) 23 [bytesCk 32 a_1])),
      .slot 7 1 100000 (fun v1_ _ => (lpVP v1_ 0)),
      .res 1 100000 (fun v1_ _ => (lb (v1_) 23 [bytesCk 32 a_3])),
      .slot 8 100000 100000 (fun _ _ => (eqVP (.slice none 0 0))),
      .slot 9 100000 100000 (fun _ _ => (eqVP (.slice none 0 0)))] [0, 0, 1, 1, 2, 3] [⟨[1], [], [5, 6], [], some 5⟩, ⟨[3], [], [7, 8], [0], some 7⟩, ⟨[], [], [9], [0, 1], some 8⟩, ⟨[], [], [10], [0, 1, 2], some 9⟩] [0, 2, 5, 7, 4, 6, 8] mixed hn hG h (by kernel_rfl) ?_ ?_
  · exact ⟨⟨rfl, fun β => (GOk.plain (op_box (opt 0 rfl) (cells_agg _)) rfl)⟩, ⟨rfl, fun β => (GOk.plain (op_box (opt 0 rfl) (cells_agg _)) rfl)⟩, ⟨rfl, fun β => (GOk.plain (op_assign (opc (ec _))) rfl)⟩, ⟨rfl, fun β => (GOk.plain (op_assign (opc (ec _))) rfl)⟩, trivial⟩
  clear h
  intro β a w h
  change SatL c [.slot 0 (eqVP p_0), .slot 2 (intVP .i64 a_2), .slot 5 (lpVP (β 0) 0), .slot 7 (lpVP (β 1) 0), .res (Log_e p_0 L_0), .res (lb (β 0) 23 [bytesCk 32 a_1]), .res (lb (β 1) 23 [bytesCk 32 a_3])] a w at h
  generalize β 0 = p1 at h
  generalize β 1 = p2 at h
  clear β
  show Code.wp Tryd.prog _ _ a w
  refine wp_seq ?_
  refine region_do (n := 44) [.slot 10 100000 100000 (fun _ _ => (eqVP (.slice none 0 0))),
      .slot 11 100000 100000 (fun _ _ => (eqVP (.slice none 0 0)))] [0, 1] [⟨[], [], [7], [], some 10⟩, ⟨[], [], [8], [0], some 11⟩] [0, 1, 2, 3, 7, 8, 4, 5, 6] mixed hn hG h (by kernel_rfl) ?_ ?_
  · exact ⟨⟨rfl, fun β => (GOk.plain (op_assign (opc (ec _))) rfl)⟩, ⟨rfl, fun β => (GOk.plain (op_assign (opc (ec _))) rfl)⟩, trivial⟩
  clear h
  intro β a w h
  change SatL c [.slot 0 (eqVP p_0), .slot 2 (intVP .i64 a_2), .slot 5 (lpVP p1 0), .slot 7 (lpVP p2 0), .slot 10 (eqVP (.slice none 0 0)), .slot 11 (eqVP (.slice none 0 0)), .res (Log_e p_0 L_0), .res (lb p1 23 [bytesCk 32 a_1]), .res (lb p2 23 [bytesCk 32 a_3])] a w at h
  clear β
  show Code.wp Tryd.prog _ _ a w
  refine wp_seq ?_
  refine wp_seq ?_
  refine region_do (n := 44) [.slot 14 100000 100000 (fun _ _ => (intVP .i64 0))] [0] [⟨[], [], [9], [], some 14⟩] [0, 1, 2, 3, 4, 5, 9, 6, 7, 8] mixed hn hG h (by kernel_rfl) ?_ ?_
  · exact ⟨⟨rfl, fun β => (GOk.plain (op_move (opc (ic (by decide)))) rfl)⟩, trivial⟩
  clear h
  intro β a w h
  change SatL c [.slot 0 (eqVP p_0), .slot 2 (intVP .i64 a_2), .slot 5 (lpVP p1 0), .slot 7 (lpVP p2 0), .slot 10 (eqVP (.slice none 0 0)), .slot 11 (eqVP (.slice none 0 0)), .slot 14 (intVP .i64 0), .res (Log_e p_0 L_0), .res (lb p1 23 [bytesCk 32 a_1]), .res (lb p2 23 [bytesCk 32 a_3])] a w at h
  clear β
  show Code.wp Tryd.prog _ _ a w
  refine wp_block ?_
  obtain ⟨q14, h⟩ : ∃ q14 : Value, SatL c [.slot 0 (eqVP p_0), .slot 2 (intVP .i64 a_2), .slot 5 (lpVP p1 0), .slot 7 (lpVP p2 0), .slot 10 (eqVP q14), .slot 11 (eqVP (.slice none 0 0)), .slot 14 (intVP .i64 0), .res (Log_e p_0 L_0), .res (lb p1 23 [bytesCk 32 a_1]), .res (lb p2 23 [bytesCk 32 a_3]), .res (acc q14 23 32 (dC 32) [])] a w := ⟨.slice none 0 0, (h.nilacc 23 32 (dC 32)).sub [0, 1, 2, 3, 4, 5, 6, 7, 8, 9, 10] (by rfl)⟩
  obtain ⟨q15, h⟩ : ∃ q15 : Value, SatL c [.slot 0 (eqVP p_0), .slot 2 (intVP .i64 a_2), .slot 5 (lpVP p1 0), .slot 7 (lpVP p2 0), .slot 10 (eqVP q14), .slot 11 (eqVP q15), .slot 14 (intVP .i64 0), .res (Log_e p_0 L_0), .res (lb p1 23 [bytesCk 32 a_1]), .res (lb p2 23 [bytesCk 32 a_3]), .res (acc q14 23 32 (dC 32) []), .res (acc q15 23 32 (dC 32) [])] a w := ⟨.slice none 0 0, (h.nilacc 23 32 (dC 32)).sub [0, 1, 2, 3, 4, 5, 6, 7, 8, 9, 10, 11] (by rfl)⟩
  obtain ⟨cr55, hl56, hF⟩ := bind_some hF
  refine wp_mono (wp_loopN (R := (List (List UInt8)) × (List (List UInt8)) × (Option O_Log)) (S := Int × (Option O_Log) × (List (List UInt8)) × (List (List UInt8))) (fun s a w => ∃ q28 : Value, ∃ q30 : Value, SatL c [.slot 0 (eqVP p_0), .slot 2 (intVP .i64 a_2), .slot 5 (lpVP p1 0), .slot 7 (lpVP p2 0), .slot 10 (eqVP q28), .slot 11 (eqVP q30), .slot 14 (intVP .i64 s.1), .res (Log_e p_0 s.2.1), .res (lb p1 23 [bytesCk 32 a_1]), .res (lb p2 23 [bytesCk 32 a_3]), .res (acc q28 23 32 (dC 32) s.2.2.1), .res (acc q30 23 32 (dC 32) s.2.2.2)] a w) (fun res e a w => match res with | .next s => e = .exit 0 ∧ ∃ q28 : Value, ∃ q30 : Value, SatL c [.slot 10 (eqVP q28), .slot 11 (eqVP q30), .res (Log_e p_0 s.2.1), .res (acc q28 23 32 (dC 32) s.2.2.1), .res (acc q30 23 32 (dC 32) s.2.2.2)] a w | .ret r => e = .ret ∧ RetOk Tryd.prog Tryd.f51 c (tupVP [(slVP (dC 32) r.1), (slVP (dC 32) r.2.1)]) (fun _ => [Log_e p_0 r.2.2]) a w) ?_ _ (0, L_0, [], []) _ _ _ ⟨q14, q15, (h.sub [0, 1, 2, 3, 4, 5, 6, 7, 8, 9, 10, 11] (by rfl))⟩ hl56) ?_
  · clear hl56 hF h
    intro s a w o h hF
    obtain ⟨x25, x26, x27, x29⟩ := s
    obtain ⟨q28, q30, h⟩ := h
    change lamport_Sign.b1 a_1 a_2 a_3 x25 x26 x27 x29 = some o at hF
    unfold lamport_Sign.b1 at hF
    change SatL c [.slot 0 (eqVP p_0), .slot 2 (intVP .i64 a_2), .slot 5 (lpVP p1 0), .slot 7 (lpVP p2 0), .slot 10 (eqVP q28), .slot 11 (eqVP q30), .slot 14 (intVP .i64 x25), .res (Log_e p_0 x26), .res (lb p1 23 [bytesCk 32 a_1]), .res (lb p2 23 [bytesCk 32 a_3]), .res (acc q28 23 32 (dC 32) x27), .res (acc q30 23 32 (dC 32) x29)] a w at h
    refine wp_seq ?_
    refine region_do (n := 44) [.slot 15 100000 100000 (fun _ _ => (boolVP (decide (x25 < (32 : Int)))))] [0] [⟨[6], [], [12], [], some 15⟩] [0, 1, 2, 3, 4, 5, 6, 12, 7, 8, 9, 10, 11] mixed hn hG h (by kernel_rfl) ?_ ?_
    · exact ⟨⟨rfl, fun β => (GOk.plain (op_bin bin_lss (opt 0 rfl) (opc (ic (by decide)))) rfl)⟩, trivial⟩
    clear h
    intro β a w h
    change SatL c [.slot 0 (eqVP p_0), .slot 2 (intVP .i64 a_2), .slot 5 (lpVP p1 0), .slot 7 (lpVP p2 0), .slot 10 (eqVP q28), .slot 11 (eqVP q30), .slot 14 (intVP .i64 x25), .slot 15 (boolVP (decide (x25 < (32 : Int)))), .res (Log_e p_0 x26), .res (lb p1 23 [bytesCk 32 a_1]), .res (lb p2 23 [bytesCk 32 a_3]), .res (acc q28 23 32 (dC 32) x27), .res (acc q30 23 32 (dC 32) x29)] a w at h
    clear β
    show Code.wp Tryd.prog _ _ a w
    refine wp_seq ?_
    refine cond_L h 7 rfl (fun hb46 => ?_) (fun hb46 => ?_)
    · replace hF := tt_of hb46 hF
      replace h := h.sub [0, 1, 2, 3, 4, 5, 6, 8, 9, 10, 11, 12] (by rfl)
      change SatL c [.slot 0 (eqVP p_0), .slot 2 (intVP .i64 a_2), .slot 5 (lpVP p1 0), .slot 7 (lpVP p2 0), .slot 10 (eqVP q28), .slot 11 (eqVP q30), .slot 14 (intVP .i64 x25), .res (Log_e p_0 x26), .res (lb p1 23 [bytesCk 32 a_1]), .res (lb p2 23 [bytesCk 32 a_3]), .res (acc q28 23 32 (dC 32) x27), .res (acc q30 23 32 (dC 32) x29)] a w at h
      refine wp_skip ?_
      show Code.wp Tryd.prog _ _ a w
      refine wp_seq ?_
      refine wp_block ?_
      refine wp_seq ?_
      refine region_do (n := 44) [.slot 16 100000 100000 (fun _ _ => (intVP .i64 x25)),
      .slot 12 100000 100000 (fun _ _ => (intVP .i64 x25))] [0, 1] [⟨[6], [], [12], [], some 16⟩, ⟨[12], [], [13], [0], some 12⟩] [0, 1, 2, 3, 4, 5, 13, 6, 7, 8, 9, 10, 11] mixed hn hG h (by kernel_rfl) ?_ ?_
      · exact ⟨⟨rfl, fun β => (GOk.plain (op_move (opt 0 rfl)) rfl)⟩, ⟨rfl, fun β => (GOk.plain (op_assign (opt 0 rfl)) rfl)⟩, trivial⟩
      clear h
      intro β a w h
      change SatL c [.slot 0 (eqVP p_0), .slot 2 (intVP .i64 a_2), .slot 5 (lpVP p1 0), .slot 7 (lpVP p2 0), .slot 10 (eqVP q28), .slot 11 (eqVP q30), .slot 12 (intVP .i64 x25), .slot 14 (intVP .i64 x25), .res (Log_e p_0 x26), .res (lb p1 23 [bytesCk 32 a_1]), .res (lb p2 23 [bytesCk 32 a_3]), .res (acc q28 23 32 (dC 32) x27), .res (acc q30 23 32 (dC 32) x29)] a w at h
      clear β
      show Code.wp Tryd.prog _ _ a w
      refine wp_seq ?_
      obtain ⟨r47, hr47, hF⟩ := bind_some hF
      refine region_do (n := 44) [.slot 17 100000 100000 (fun _ _ => (aggVP [bytesCk 32 a_3])),
      .slot 18 100000 100000 (fun _ _ => (intVP .i64 x25)),
      .slot 19 100000 100000 (fun _ _ => (intVP .i64 r47)),
      .slot 13 100000 100000 (fun _ _ => (intVP .i64 r47))] [0, 1, 2, 3] [⟨[3, 10], [], [13], [], some 17⟩, ⟨[6], [], [14], [0], some 18⟩, ⟨[13, 14], [], [15], [0, 1], some 19⟩, ⟨[15], [], [16], [0, 1, 2], some 13⟩] [0, 1, 2, 3, 4, 5, 6, 16, 7, 8, 9, 10, 11, 12] mixed hn hG h (by kernel_rfl) ?_ ?_
      · exact ⟨⟨rfl, fun β => (GOk.plain (op_load_lb [] [bytesCk 32 a_3] [] 1 Tryd.isAgg23 Tryd.sizeOf23 (opt 0 rfl) rfl rfl rfl) rfl)⟩, ⟨rfl, fun β => (GOk.plain (op_move (opt 0 rfl)) rfl)⟩, ⟨rfl, fun β => (GOk.plain (op_call Tryd.call72 (lamport_Bit_ok hr47) ⟨(opt 0 rfl), (opt 1 rfl), trivial⟩) rfl)⟩, ⟨rfl, fun β => (GOk.plain (op_assign (opt 0 rfl)) rfl)⟩, trivial⟩
      clear h
      intro β a w h
      change SatL c [.slot 0 (eqVP p_0), .slot 2 (intVP .i64 a_2), .slot 5 (lpVP p1 0), .slot 7 (lpVP p2 0), .slot 10 (eqVP q28), .slot 11 (eqVP q30), .slot 12 (intVP .i64 x25), .slot 13 (intVP .i64 r47), .slot 14 (intVP .i64 x25), .res (Log_e p_0 x26), .res (lb p1 23 [bytesCk 32 a_1]), .res (lb p2 23 [bytesCk 32 a_3]), .res (acc q28 23 32 (dC 32) x27), .res (acc q30 23 32 (dC 32) x29)] a w at h
      clear β
      show Code.wp Tryd.prog _ _ a w
      refine wp_seq ?_
      obtain ⟨r48, hr48, hF⟩ := bind_some hF
      obtain ⟨hv49, hF⟩ := ite_some hF
      refine region_do (n := 44) [.slot 20 100000 100000 (fun _ _ => (eqVP q28)),
      .slot 21 100000 100000 (fun _ _ => (eqVP p_0)),
      .slot 22 100000 100000 (fun _ _ => (aggVP [bytesCk 32 a_1])),
      .slot 23 100000 100000 (fun _ _ => (intVP .i64 a_2)),
      .slot 24 100000 100000 (fun _ _ => (intVP .i64 x25)),
      .slot 25 100000 100000 (fun _ _ => (intVP .i64 r47)),
      .slot 26 100000 100000 (fun _ _ => (aggVP [bytesCk 32 r48.1])),
      .res 100000 100000 (fun _ _ => (Log_e p_0 r48.2)),
      .slot 27 100000 100000 (fun _ _ => (slVP (dC 32) [r48.1])),
      .slot 28 8 100000 (fun v1_ _ => (eqVP v1_)),
      .res 8 100000 (fun v1_ _ => (acc (v1_) 23 32 (dC 32) (x27 ++ [r48.1]))),
      .slot 10 8 100000 (fun v1_ _ => (eqVP v1_))] [0, 1, 2, 3, 4, 5, 6, 6, 7, 8, 8, 9] [⟨[4], [], [14], [], some 20⟩, ⟨[0], [], [15], [0], some 21⟩, ⟨[2, 10], [], [16], [0, 1], some 22⟩, ⟨[1], [], [17], [0, 1, 2], some 23⟩, ⟨[6], [], [18], [0, 1, 2, 3], some 24⟩, ⟨[7], [], [19], [0, 1, 2, 3, 4], some 25⟩, ⟨[15, 16, 17, 18, 19], [9], [20, 21], [0, 1, 2, 3, 4, 5], some 26⟩, ⟨[20], [], [22], [0, 1, 2, 3, 4, 5, 6], some 27⟩, ⟨[14, 22], [12], [23, 24], [0, 1, 2, 3, 4, 5, 6, 7], some 28⟩, ⟨[23], [4], [25], [0, 1, 2, 3, 4, 5, 6, 7, 8], some 10⟩] [0, 1, 2, 3, 25, 5, 6, 7, 8, 10, 11, 13, 21, 24] mixed hn hG h (by kernel_rfl) ?_ ?_
      · exact ⟨⟨rfl, fun β => (GOk.plain (op_move (opt 0 rfl)) rfl)⟩, ⟨rfl, fun β => (GOk.plain (op_move (opt 0 rfl)) rfl)⟩, ⟨rfl, fun β => (GOk.plain (op_load_lb [] [bytesCk 32 a_1] [] 1 Tryd.isAgg23 Tryd.sizeOf23 (opt 0 rfl) rfl rfl rfl) rfl)⟩, ⟨rfl, fun β => (GOk.plain (op_move (opt 0 rfl)) rfl)⟩, ⟨rfl, fun β => (GOk.plain (op_move (opt 0 rfl)) rfl)⟩, ⟨rfl, fun β => (GOk.plain (op_move (opt 0 rfl)) rfl)⟩, ⟨rfl, fun β => (GOk.plain (op_call Tryd.call69 (lamport_Secret_ok hr48) ⟨(opt 0 rfl), (opt 1 rfl), (opt 2 rfl), (opt 3 rfl), (opt 4 rfl), trivial⟩) rfl)⟩, ⟨rfl, fun β => (GOk.plain (op_lit (xs := [.tmp 26]) (ys := [r48.1]) _ rfl Tryd.underlying24 Tryd.sizeOf23 Tryd.zeroValue23 rfl rfl (by decide) (by decide) ⟨⟨_, (opt 0 rfl), (cells_agg _)⟩, trivial⟩ (lens_dC 32)) rfl)⟩, ⟨rfl, fun β => (GOk.plain (op_append (i := Tryd.t23) Tryd.underlying24 Tryd.type23 rfl (lens_dC 32) (by decide) rfl (opt 0 rfl) (opt 1 rfl) hv49) rfl)⟩, ⟨rfl, fun β => (GOk.drop _ (GOk.plain (op_assign (V := (eqVP (β 8))) (opt 0 rfl)) rfl))⟩, trivial⟩
      clear h
      intro β a w h
      change SatL c [.slot 0 (eqVP p_0), .slot 2 (intVP .i64 a_2), .slot 5 (lpVP p1 0), .slot 7 (lpVP p2 0), .slot 10 (eqVP (β 8)), .slot 11 (eqVP q30), .slot 12 (intVP .i64 x25), .slot 13 (intVP .i64 r47), .slot 14 (intVP .i64 x25), .res (lb p1 23 [bytesCk 32 a_1]), .res (lb p2 23 [bytesCk 32 a_3]), .res (acc q30 23 32 (dC 32) x29), .res (Log_e p_0 r48.2), .res (acc (β 8) 23 32 (dC 32) (x27 ++ [r48.1]))] a w at h
      generalize β 8 = p50 at h
      clear β
      show Code.wp Tryd.prog _ _ a w
      obtain ⟨r51, hr51, hF⟩ := bind_some hF
      obtain ⟨r52, hr52, hF⟩ := bind_some hF
      obtain ⟨hv53, hF⟩ := ite_some hF
      refine region_do (n := 44) [.slot 29 100000 100000 (fun _ _ => (eqVP q30)),
      .slot 30 100000 100000 (fun _ _ => (eqVP p_0)),
      .slot 31 100000 100000 (fun _ _ => (eqVP p_0)),
      .slot 32 100000 100000 (fun _ _ => (aggVP [bytesCk 32 a_1])),
      .slot 33 100000 100000 (fun _ _ => (intVP .i64 a_2)),
      .slot 34 100000 100000 (fun _ _ => (intVP .i64 x25)),
      .slot 35 100000 100000 (fun _ _ => (intVP .i64 r47)),
      .slot 36 100000 100000 (fun _ _ => (intVP .i64 (IntKind.wrap .i64 (1 - r47)))),
      .slot 37 100000 100000 (fun _ _ => (aggVP [bytesCk 32 r51.1])),
      .res 100000 100000 (fun _ _ => (Log_e p_0 r51.2)),
      .slot 38 100000 100000 (fun _ _ => (aggVP [bytesCk 32 r52.1])),
      .res 100000 100000 (fun _ _ => (Log_e p_0 r52.2)),
      .slot 39 100000 100000 (fun _ _ => (slVP (dC 32) [r52.1])),
      .slot 40 11 100000 (fun v1_ _ => (eqVP v1_)),
      .res 11 100000 (fun v1_ _ => (acc (v1_) 23 32 (dC 32) (x29 ++ [r52.1]))),
      .slot 11 11 100000 (fun v1_ _ => (eqVP v1_))] [0, 1, 2, 3, 4, 5, 6, 7, 8, 8, 9, 9, 10, 11, 11, 12] [⟨[5], [], [14], [], some 29⟩, ⟨[0], [], [15], [0], some 30⟩, ⟨[0], [], [16], [0, 1], some 31⟩, ⟨[2, 9], [], [17], [0, 1, 2], some 32⟩, ⟨[1], [], [18], [0, 1, 2, 3], some 33⟩, ⟨[6], [], [19], [0, 1, 2, 3, 4], some 34⟩, ⟨[7], [], [20], [0, 1, 2, 3, 4, 5], some 35⟩, ⟨[20], [], [21], [0, 1, 2, 3, 4, 5, 6], some 36⟩, ⟨[16, 17, 18, 19, 21], [12], [22, 23], [0, 1, 2, 3, 4, 5, 6, 7], some 37⟩, ⟨[15, 22], [23], [24, 25], [0, 1, 2, 3, 4, 5, 6, 7, 8], some 38⟩, ⟨[24], [], [26], [0, 1, 2, 3, 4, 5, 6, 7, 8, 9], some 39⟩, ⟨[14, 26], [11], [27, 28], [0, 1, 2, 3, 4, 5, 6, 7, 8, 9, 10], some 40⟩, ⟨[27], [5], [29], [0, 1, 2, 3, 4, 5, 6, 7, 8, 9, 10, 11], some 11⟩] [0, 1, 2, 3, 4, 29, 8, 9, 10, 13, 25, 28] mixed hn hG h (by kernel_rfl) ?_ ?_
      · exact ⟨⟨rfl, fun β => (GOk.plain (op_move (opt 0 rfl)) rfl)⟩, ⟨rfl, fun β => (GOk.plain (op_move (opt 0 rfl)) rfl)⟩, ⟨rfl, fun β => (GOk.plain (op_move (opt 0 rfl)) rfl)⟩, ⟨rfl, fun β => (GOk.plain (op_load_lb [] [bytesCk 32 a_1] [] 1 Tryd.isAgg23 Tryd.sizeOf23 (opt 0 rfl) rfl rfl rfl) rfl)⟩, ⟨rfl, fun β => (GOk.plain (op_move (opt 0 rfl)) rfl)⟩, ⟨rfl, fun β => (GOk.plain (op_move (opt 0 rfl)) rfl)⟩, ⟨rfl, fun β => (GOk.plain (op_move (opt 0 rfl)) rfl)⟩, ⟨rfl, fun β => (GOk.plain (op_bin bin_sub (opc (ic (by decide))) (opt 0 rfl)) rfl)⟩, ⟨rfl, fun β => (GOk.plain (op_call Tryd.call69 (lamport_Secret_ok hr51) ⟨(opt 0 rfl), (opt 1 rfl), (opt 2 rfl), (opt 3 rfl), (opt 4 rfl), trivial⟩) rfl)⟩, ⟨rfl, fun β => (GOk.plain (op_call Tryd.call68 (lamport_Public_ok hr52) ⟨(opt 0 rfl), (opt 1 rfl), trivial⟩) rfl)⟩, ⟨rfl, fun β => (GOk.plain (op_lit (xs := [.tmp 38]) (ys := [r52.1]) _ rfl Tryd.underlying24 Tryd.sizeOf23 Tryd.zeroValue23 rfl rfl (by decide) (by decide) ⟨⟨_, (opt 0 rfl), (cells_agg _)⟩, trivial⟩ (lens_dC 32)) rfl)⟩, ⟨rfl, fun β => (GOk.plain (op_append (i := Tryd.t23) Tryd.underlying24 Tryd.type23 rfl (lens_dC 32) (by decide) rfl (opt 0 rfl) (opt 1 rfl) hv53) rfl)⟩, ⟨rfl, fun β => (GOk.drop _ (GOk.plain (op_assign (V := (eqVP (β 11))) (opt 0 rfl)) rfl))⟩, trivial⟩
      clear h
      intro β a w h
      change SatL c [.slot 0 (eqVP p_0), .slot 2 (intVP .i64 a_2), .slot 5 (lpVP p1 0), .slot 7 (lpVP p2 0), .slot 10 (eqVP p50), .slot 11 (eqVP (β 11)), .slot 14 (intVP .i64 x25), .res (lb p1 23 [bytesCk 32 a_1]), .res (lb p2 23 [bytesCk 32 a_3]), .res (acc p50 23 32 (dC 32) (x27 ++ [r48.1])), .res (Log_e p_0 r52.2), .res (acc (β 11) 23 32 (dC 32) (x29 ++ [r52.1]))] a w at h
      generalize β 11 = p54 at h
      clear β
      show Code.wp Tryd.prog _ _ a w
      refine region_do (n := 44) [.slot 41 100000 100000 (fun _ _ => (intVP .i64 (IntKind.wrap .i64 (x25 + 1)))),
      .slot 14 100000 100000 (fun _ _ => (intVP .i64 (IntKind.wrap .i64 (x25 + 1))))] [0, 1] [⟨[6], [], [12], [], some 41⟩, ⟨[12], [6], [13], [0], some 14⟩] [0, 1, 2, 3, 4, 5, 13, 7, 8, 9, 10, 11] mixed hn hG h (by kernel_rfl) ?_ ?_
      · exact ⟨⟨rfl, fun β => (GOk.plain (op_bin bin_add (opt 0 rfl) (opc (ic (by decide)))) rfl)⟩, ⟨rfl, fun β => (GOk.drop _ (GOk.plain (op_move (opt 0 rfl)) rfl))⟩, trivial⟩
      clear h
      intro β a w h
      change SatL c [.slot 0 (eqVP p_0), .slot 2 (intVP .i64 a_2), .slot 5 (lpVP p1 0), .slot 7 (lpVP p2 0), .slot 10 (eqVP p50), .slot 11 (eqVP p54), .slot 14 (intVP .i64 (IntKind.wrap .i64 (x25 + 1))), .res (lb p1 23 [bytesCk 32 a_1]), .res (lb p2 23 [bytesCk 32 a_3]), .res (acc p50 23 32 (dC 32) (x27 ++ [r48.1])), .res (Log_e p_0 r52.2), .res (acc p54 23 32 (dC 32) (x29 ++ [r52.1]))] a w at h
      clear β
      obtain rfl := Option.some.inj hF
      exact ⟨rfl, p50, p54, h.sub [0, 1, 2, 3, 4, 5, 6, 10, 7, 8, 9, 11] (by rfl)⟩
    · replace hF := ff_of hb46 hF
      replace h := h.sub [0, 1, 2, 3, 4, 5, 6, 8, 9, 10, 11, 12] (by rfl)
      change SatL c [.slot 0 (eqVP p_0), .slot 2 (intVP .i64 a_2), .slot 5 (lpVP p1 0), .slot 7 (lpVP p2 0), .slot 10 (eqVP q28), .slot 11 (eqVP q30), .slot 14 (intVP .i64 x25), .res (Log_e p_0 x26), .res (lb p1 23 [bytesCk 32 a_1]), .res (lb p2 23 [bytesCk 32 a_3]), .res (acc q28 23 32 (dC 32) x27), .res (acc q30 23 32 (dC 32) x29)] a w at h
      refine wp_exit ?_
      obtain rfl := Option.some.inj hF
      exact ⟨exit_ne _, rfl, q28, q30, h.sub [4, 5, 7, 10, 11] (by rfl)⟩
  · clear hl56
    intro e a w hq
    cases cr55 with
    | ret r57 =>
      obtain ⟨rfl, hq⟩ := hq
      obtain rfl := Option.some.inj hF
      exact ⟨.inl rfl, hq⟩
    | next s58 =>
      obtain ⟨y59, y60, y61, y62⟩ := s58
      obtain ⟨rfl, q28, q30, h⟩ := hq
      change SatL c [.slot 10 (eqVP q28), .slot 11 (eqVP q30), .res (Log_e p_0 y60), .res (acc q28 23 32 (dC 32) y61), .res (acc q30 23 32 (dC 32) y62)] a w at h
      refine inBlock_at ?_
      show Code.wp Tryd.prog _ _ a w
      refine wp_seq ?_
      refine region_do (n := 44) [.slot 42 100000 100000 (fun _ _ => (eqVP q28)),
      .slot 43 100000 100000 (fun _ _ => (eqVP q30)),
      .slot 8 100000 100000 (fun _ _ => (eqVP q28)),
      .slot 9 100000 100000 (fun _ _ => (eqVP q30))] [0, 1, 2, 3] [⟨[0], [], [5], [], some 42⟩, ⟨[1], [], [6], [0], some 43⟩, ⟨[5], [], [7], [0, 1], some 8⟩, ⟨[6], [], [8], [0, 1, 2], some 9⟩] [7, 8, 2, 3, 4] mixed hn hG h (by kernel_rfl) ?_ ?_
      · exact ⟨⟨rfl, fun β => (GOk.plain (op_move (opt 0 rfl)) rfl)⟩, ⟨rfl, fun β => (GOk.plain (op_move (opt 0 rfl)) rfl)⟩, ⟨rfl, fun β => (GOk.plain (op_assign (opt 0 rfl)) rfl)⟩, ⟨rfl, fun β => (GOk.plain (op_assign (opt 0 rfl)) rfl)⟩, trivial⟩
      clear h
      intro β a w h
      change SatL c [.slot 8 (eqVP q28), .slot 9 (eqVP q30), .res (Log_e p_0 y60), .res (acc q28 23 32 (dC 32) y61), .res (acc q30 23 32 (dC 32) y62)] a w at h
      clear β
      show Code.wp Tryd.prog _ _ a w
      refine wp_ret ?_
      obtain rfl := Option.some.inj hF
      exact ⟨.inl rfl, retn h (rs := [.tmp 8, .tmp 9]) (Vs := [(slVP (dC 32) y61), (slVP (dC 32) y62)]) Tryd.results51 (by decide) ⟨(r_acc 0 3 rfl rfl), (r_acc 1 4 rfl rfl), trivial⟩ [2] [(Log_e p_0 y60)] rfl rfl rfl⟩

def keys_Signer_path.b1 (x14 : Int) (x15 : List (List UInt8)) (x16 : Option O_Log) (x17 : List (List UInt8)) : Option (Flow ((List (List UInt8)) × (Option O_Log)) (Int × (List (List UInt8)) × (Option O_Log) × (List (List UInt8)))) := (if (decide ((1 : Int) < (x15.length : Int))) = true then (if (0 : Int) ≤ bits .xor .i64 x14 1 ∧ bits .xor .i64 x14 1 < x15.length then (if x17.length + [x15.getD (bits .xor .i64 x14 1).toNat default].length ≤ mxl ∧ (x17.length + [x15.getD (bits .xor .i64 x14 1).toNat default].length) * 32 ≤ 140737488355328 then ((keys_up x16 x15).bind fun r33 => some (.cont (IntKind.wrap .i64 (x14.tdiv 2), r33.1, r33.2, x17 ++ [x15.getD (bits .xor .i64 x14 1).toNat default]))) else none) else none) else some (.brk (x14, x15, x16, x17)))
def keys_Signer_path (a_0 : S_keys_Signer) (L_1 : Option O_Log) (a_2 : Int) : Option ((List (List UInt8)) × (Option O_Log)) := ((loopN (fun s : Int × (List (List UInt8)) × (Option O_Log) × (List (List UInt8)) => keys_Signer_path.b1 s.1 s.2.1 s.2.2.1 s.2.2.2) (((a_0.f_Leaves.length : Int) - 1 : Int).toNat + 2) (a_2, a_0.f_Leaves, L_1, [])).bind fun cr => match cr with | .ret r => some r | .next (y38, y39, y40, y41) => some (y41, y40))
theorem keys_Signer_path_ok {p_1 : Value} {a_0 : S_keys_Signer} {L_1 : Option O_Log} {a_2 : Int} {r : (List (List UInt8)) × (Option O_Log)} (hF : keys_Signer_path a_0 L_1 a_2 = some r) : CallOk Tryd.prog KG 52 [(aggVP [bytesCk 32 a_0.f_Seed, one (intVP .i64 a_0.f_Next), one (slVP (dC 32) a_0.f_Leaves)]), (eqVP p_1), (intVP .i64 a_2)] [(Log_e p_1 L_1)] (fun _ => [Log_e p_1 r.2]) (slVP (dC 32) r.1) := by
  refine CallOk.intro 28 Tryd.func52 rfl Tryd.ntmps52 (Nat.le_of_ble_eq_true rfl) ?_
  intro c a w hG hn h
  unfold keys_Signer_path at hF
  change SatL c [.slot 0 (aggVP [bytesCk 32 a_0.f_Seed, one (intVP .i64 a_0.f_Next), one (slVP (dC 32) a_0.f_Leaves)]), .slot 1 (eqVP p_1), .slot 2 (intVP .i64 a_2), .res (Log_e p_1 L_1)] a w at h
  refine wp_seq ?_
  refine region_do (n := 28) [.slot 3 0 100000 (fun v1_ _ => (lpVP v1_ 0)),
      .res 0 100000 (fun v1_ _ => (lb (v1_) 27 [bytesCk 32 a_0.f_Seed, one (intVP .i64 a_0.f_Next), one (slVP (dC 32) a_0.f_Leaves)])),
      .slot 6 100000 100000 (fun _ _ => (eqVP (.slice none 0 0)))] [0, 0, 1] [⟨[0], [], [4, 5], [], some 3⟩, ⟨[], [], [6], [0], some 6⟩] [1, 2, 4, 3, 5] mixed hn hG h (by kernel_rfl) ?_ ?_
  · exact ⟨⟨rfl, fun β => (GOk.plain (op_box (opt 0 rfl) (cells_agg _)) rfl)⟩, ⟨rfl, fun β => (GOk.plain (op_assign (opc (ec _))) rfl)⟩, trivial⟩
  clear h
  intro β a w h
  change SatL c [.slot 1 (eqVP p_1), .slot 2 (intVP .i64 a_2), .slot 3 (lpVP (β 0) 0), .res (Log_e p_1 L_1), .res (lb (β 0) 27 [bytesCk 32 a_0.f_Seed, one (intVP .i64 a_0.f_Next), one (slVP (dC 32) a_0.f_Leaves)])] a w at h
  generalize β 0 = p1 at h
  clear β
  show Code.wp Tryd.prog _ _ a w
  refine wp_seq ?_
  refine region_do (n := 28) [.slot 7 100000 100000 (fun _ _ => (eqVP (.slice none 0 0)))] [0] [⟨[], [], [5], [], some 7⟩] [0, 1, 2, 5, 3, 4] mixed hn hG h (by kernel_rfl) ?_ ?_
  · exact ⟨⟨rfl, fun β => (GOk.plain (op_assign (opc (ec _))) rfl)⟩, trivial⟩
  clear h
  intro β a w h
  change SatL c [.slot 1 (eqVP p_1), .slot 2 (intVP .i64 a_2), .slot 3 (lpVP p1 0), .slot 7 (eqVP (.slice none 0 0)), .res (Log_e p_1 L_1), .res (lb p1 27 [bytesCk 32 a_0.f_Seed, one (intVP .i64 a_0.f_Next), one (slVP (dC 32) a_0.f_Leaves)])] a w at h
  clear β
  show Code.wp Tryd.prog _ _ a w
  refine wp_seq ?_
  refine region_do (n := 28) [.slot 9 100000 100000 (fun _ _ => (lpVP p1 33)),
      .slot 10 100000 100000 (fun _ _ => (slVP (dC 32) a_0.f_Leaves)),
      .slot 8 100000 100000 (fun _ _ => (slVP (dC 32) a_0.f_Leaves))] [0, 1, 2] [⟨[2], [], [6], [], some 9⟩, ⟨[6, 5], [], [7], [0], some 10⟩, ⟨[7], [], [8], [0, 1], some 8⟩] [0, 1, 3, 8, 4] mixed hn hG h (by kernel_rfl) ?_ ?_
  · exact ⟨⟨rfl, fun β => (GOk.plain (op_fieldAddr_lbm (p := p1) (n := 1) 0 33 Tryd.underlying27 rfl Tryd.sizeOf24 (by decide) (opt 0 rfl) rfl) rfl)⟩, ⟨rfl, fun β => (GOk.plain (op_load_lb1 [bytesCk 32 a_0.f_Seed, one (intVP .i64 a_0.f_Next)] [] 1 Tryd.isAgg24 (opt 0 rfl) rfl rfl) rfl)⟩, ⟨rfl, fun β => (GOk.plain (op_assign (opt 0 rfl)) rfl)⟩, trivial⟩
  clear h
  intro β a w h
  change SatL c [.slot 1 (eqVP p_1), .slot 2 (intVP .i64 a_2), .slot 7 (eqVP (.slice none 0 0)), .slot 8 (slVP (dC 32) a_0.f_Leaves), .res (Log_e p_1 L_1)] a w at h
  clear β
  show Code.wp Tryd.prog _ _ a w
  refine wp_seq ?_
  refine wp_block ?_
  obtain ⟨q8, h⟩ : ∃ q8 : Value, SatL c [.slot 1 (eqVP p_1), .slot 2 (intVP .i64 a_2), .slot 7 (eqVP q8), .slot 8 (slVP (dC 32) a_0.f_Leaves), .res (Log_e p_1 L_1), .res (acc q8 23 32 (dC 32) [])] a w := ⟨.slice none 0 0, (h.nilacc 23 32 (dC 32)).sub [0, 1, 2, 3, 4, 5] (by rfl)⟩
  obtain ⟨cr34, hl35, hF⟩ := bind_some hF
  refine wp_mono (wp_loopN (R := (List (List UInt8)) × (Option O_Log)) (S := Int × (List (List UInt8)) × (Option O_Log) × (List (List UInt8))) (fun s a w => ∃ q18 : Value, SatL c [.slot 1 (eqVP p_1), .slot 2 (intVP .i64 s.1), .slot 7 (eqVP q18), .slot 8 (slVP (dC 32) s.2.1), .res (Log_e p_1 s.2.2.1), .res (acc q18 23 32 (dC 32) s.2.2.2)] a w) (fun res e a w => match res with | .next s => e = .exit 0 ∧ ∃ q18 : Value, SatL c [.slot 7 (eqVP q18), .res (Log_e p_1 s.2.2.1), .res (acc q18 23 32 (dC 32) s.2.2.2)] a w | .ret r => e = .ret ∧ RetOk Tryd.prog Tryd.f52 c (slVP (dC 32) r.1) (fun _ => [Log_e p_1 r.2]) a w) ?_ _ (a_2, a_0.f_Leaves, L_1, []) _ _ _ ⟨q8, (h.sub [0, 1, 2, 3, 4, 5] (by rfl))⟩ hl35) ?_
  · clear hl35 hF h
    intro s a w o h hF
    obtain ⟨x14, x15, x16, x17⟩ := s
    obtain ⟨q18, h⟩ := h
    change keys_Signer_path.b1 x14 x15 x16 x17 = some o at hF
    unfold keys_Signer_path.b1 at hF
    change SatL c [.slot 1 (eqVP p_1), .slot 2 (intVP .i64 x14), .slot 7 (eqVP q18), .slot 8 (slVP (dC 32) x15), .res (Log_e p_1 x16), .res (acc q18 23 32 (dC 32) x17)] a w at h
    refine wp_seq ?_
    refine wp_seq ?_
    refine region_do (n := 28) [.slot 11 100000 100000 (fun _ _ => (slVP (dC 32) x15)),
      .slot 12 100000 100000 (fun _ _ => (intVP .i64 (x15.length : Int))),
      .slot 13 100000 100000 (fun _ _ => (boolVP (decide ((1 : Int) < (x15.length : Int)))))] [0, 1, 2] [⟨[3], [], [6], [], some 11⟩, ⟨[6], [], [7], [0], some 12⟩, ⟨[7], [], [8], [0, 1], some 13⟩] [0, 1, 2, 3, 8, 4, 5] mixed hn hG h (by kernel_rfl) ?_ ?_
    · exact ⟨⟨rfl, fun β => (GOk.plain (op_move (opt 0 rfl)) rfl)⟩, ⟨rfl, fun β => (GOk.plain (op_len_sl Tryd.underlying24 (opt 0 rfl)) rfl)⟩, ⟨rfl, fun β => (GOk.plain (op_bin bin_gtr (opt 0 rfl) (opc (ic (by decide)))) rfl)⟩, trivial⟩
    clear h
    intro β a w h
    change SatL c [.slot 1 (eqVP p_1), .slot 2 (intVP .i64 x14), .slot 7 (eqVP q18), .slot 8 (slVP (dC 32) x15), .slot 13 (boolVP (decide ((1 : Int) < (x15.length : Int)))), .res (Log_e p_1 x16), .res (acc q18 23 32 (dC 32) x17)] a w at h
    clear β
    show Code.wp Tryd.prog _ _ a w
    refine cond_L h 4 rfl (fun hb29 => ?_) (fun hb29 => ?_)
    · replace hF := tt_of hb29 hF
      replace h := h.sub [0, 1, 2, 3, 5, 6] (by rfl)
      change SatL c [.slot 1 (eqVP p_1), .slot 2 (intVP .i64 x14), .slot 7 (eqVP q18), .slot 8 (slVP (dC 32) x15), .res (Log_e p_1 x16), .res (acc q18 23 32 (dC 32) x17)] a w at h
      refine wp_skip ?_
      show Code.wp Tryd.prog _ _ a w
      refine wp_block ?_
      refine wp_seq ?_
      obtain ⟨hv30, hF⟩ := ite_some hF
      obtain ⟨hv31, hF⟩ := ite_some hF
      refine region_do (n := 28) [.slot 14 100000 100000 (fun _ _ => (eqVP q18)),
      .slot 15 100000 100000 (fun _ _ => (slVP (dC 32) x15)),
      .slot 16 100000 100000 (fun _ _ => (intVP .i64 x14)),
      .slot 17 100000 100000 (fun _ _ => (intVP .i64 (bits .xor .i64 x14 1))),
      .slot 18 100000 100000 (fun _ _ => (ppVP [bytesCk 32 (x15.getD (bits .xor .i64 x14 1).toNat default)])),
      .slot 19 100000 100000 (fun _ _ => (aggVP [bytesCk 32 (x15.getD (bits .xor .i64 x14 1).toNat default)])),
      .slot 20 100000 100000 (fun _ _ => (slVP (dC 32) [x15.getD (bits .xor .i64 x14 1).toNat default])),
      .slot 21 7 100000 (fun v1_ _ => (eqVP v1_)),
      .res 7 100000 (fun v1_ _ => (acc (v1_) 23 32 (dC 32) (x17 ++ [x15.getD (bits .xor .i64 x14 1).toNat default]))),
      .slot 7 7 100000 (fun v1_ _ => (eqVP v1_))] [0, 1, 2, 3, 4, 5, 6, 7, 7, 8] [⟨[2], [], [6], [], some 14⟩, ⟨[3], [], [7], [0], some 15⟩, ⟨[1], [], [8], [0, 1], some 16⟩, ⟨[8], [], [9], [0, 1, 2], some 17⟩, ⟨[7, 9], [], [10], [0, 1, 2, 3], some 18⟩, ⟨[10], [], [11], [0, 1, 2, 3, 4], some 19⟩, ⟨[11], [], [12], [0, 1, 2, 3, 4, 5], some 20⟩, ⟨[6, 12], [5], [13, 14], [0, 1, 2, 3, 4, 5, 6], some 21⟩, ⟨[13], [2], [15], [0, 1, 2, 3, 4, 5, 6, 7], some 7⟩] [0, 1, 15, 3, 4, 14] mixed hn hG h (by kernel_rfl) ?_ ?_
      · exact ⟨⟨rfl, fun β => (GOk.plain (op_move (opt 0 rfl)) rfl)⟩, ⟨rfl, fun β => (GOk.plain (op_move (opt 0 rfl)) rfl)⟩, ⟨rfl, fun β => (GOk.plain (op_move (opt 0 rfl)) rfl)⟩, ⟨rfl, fun β => (GOk.plain (op_bin bin_xor (opt 0 rfl) (opc (ic (by decide)))) rfl)⟩, ⟨rfl, fun β => (GOk.plain (op_indexAddr_sl Tryd.underlying24 Tryd.sizeOf23 (lens_dC 32) (opt 0 rfl) (opt 1 rfl) hv30) rfl)⟩, ⟨rfl, fun β => (GOk.plain (op_load_pp [bytesCk 32 (x15.getD (bits .xor .i64 x14 1).toNat default)] [] Tryd.isAgg23 Tryd.sizeOf23 (opt 0 rfl) rfl) rfl)⟩, ⟨rfl, fun β => (GOk.plain (op_lit (xs := [.tmp 19]) (ys := [x15.getD (bits .xor .i64 x14 1).toNat default]) _ rfl Tryd.underlying24 Tryd.sizeOf23 Tryd.zeroValue23 rfl rfl (by decide) (by decide) ⟨⟨_, (opt 0 rfl), (cells_agg _)⟩, trivial⟩ (lens_dC 32)) rfl)⟩, ⟨rfl, fun β => (GOk.plain (op_append (i := Tryd.t23) Tryd.underlying24 Tryd.type23 rfl (lens_dC 32) (by decide) rfl (opt 0 rfl) (opt 1 rfl) hv31) rfl)⟩, ⟨rfl, fun β => (GOk.drop _ (GOk.plain (op_assign (V := (eqVP (β 7))) (opt 0 rfl)) rfl))⟩, trivial⟩
      clear h
      intro β a w h
      change SatL c [.slot 1 (eqVP p_1), .slot 2 (intVP .i64 x14), .slot 7 (eqVP (β 7)), .slot 8 (slVP (dC 32) x15), .res (Log_e p_1 x16), .res (acc (β 7) 23 32 (dC 32) (x17 ++ [x15.getD (bits .xor .i64 x14 1).toNat default]))] a w at h
      generalize β 7 = p32 at h
      clear β
      show Code.wp Tryd.prog _ _ a w
      obtain ⟨r33, hr33, hF⟩ := bind_some hF
      refine region_do (n := 28) [.slot 22 100000 100000 (fun _ _ => (eqVP p_1)),
      .slot 23 100000 100000 (fun _ _ => (slVP (dC 32) x15)),
      .slot 24 100000 100000 (fun _ _ => (slVP (dC 32) r33.1)),
      .res 100000 100000 (fun _ _ => (Log_e p_1 r33.2)),
      .slot 25 100000 100000 (fun _ _ => (intVP .i64 x14)),
      .slot 26 100000 100000 (fun _ _ => (intVP .i64 (IntKind.wrap .i64 (x14.tdiv 2)))),
      .slot 8 100000 100000 (fun _ _ => (slVP (dC 32) r33.1)),
      .slot 2 100000 100000 (fun _ _ => (intVP .i64 (IntKind.wrap .i64 (x14.tdiv 2))))] [0, 1, 2, 2, 3, 4, 5, 6] [⟨[0], [], [6], [], some 22⟩, ⟨[3], [], [7], [0], some 23⟩, ⟨[6, 7], [4], [8, 9], [0, 1], some 24⟩, ⟨[1], [], [10], [0, 1, 2], some 25⟩, ⟨[10], [], [11], [0, 1, 2, 3], some 26⟩, ⟨[8], [3], [12], [0, 1, 2, 3, 4], some 8⟩, ⟨[11], [1], [13], [0, 1, 2, 3, 4, 5], some 2⟩] [0, 13, 2, 12, 5, 9] mixed hn hG h (by kernel_rfl) ?_ ?_
      · exact ⟨⟨rfl, fun β => (GOk.plain (op_move (opt 0 rfl)) rfl)⟩, ⟨rfl, fun β => (GOk.plain (op_move (opt 0 rfl)) rfl)⟩, ⟨rfl, fun β => (GOk.plain (op_call Tryd.call49 (keys_up_ok hr33) ⟨(opt 0 rfl), (opt 1 rfl), trivial⟩) rfl)⟩, ⟨rfl, fun β => (GOk.plain (op_move (opt 0 rfl)) rfl)⟩, ⟨rfl, fun β => (GOk.plain (op_bin (bin_quo (by decide)) (opt 0 rfl) (opc (ic (by decide)))) rfl)⟩, ⟨rfl, fun β => (GOk.drop _ (GOk.plain (op_assign (opt 0 rfl)) rfl))⟩, ⟨rfl, fun β => (GOk.drop _ (GOk.plain (op_assign (opt 0 rfl)) rfl))⟩, trivial⟩
      clear h
      intro β a w h
      change SatL c [.slot 1 (eqVP p_1), .slot 2 (intVP .i64 (IntKind.wrap .i64 (x14.tdiv 2))), .slot 7 (eqVP p32), .slot 8 (slVP (dC 32) r33.1), .res (acc p32 23 32 (dC 32) (x17 ++ [x15.getD (bits .xor .i64 x14 1).toNat default])), .res (Log_e p_1 r33.2)] a w at h
      clear β
      obtain rfl := Option.some.inj hF
      exact ⟨rfl, p32, h.sub [0, 1, 2, 3, 5, 4] (by rfl)⟩
    · replace hF := ff_of hb29 hF
      replace h := h.sub [0, 1, 2, 3, 5, 6] (by rfl)
      change SatL c [.slot 1 (eqVP p_1), .slot 2 (intVP .i64 x14), .slot 7 (eqVP q18), .slot 8 (slVP (dC 32) x15), .res (Log_e p_1 x16), .res (acc q18 23 32 (dC 32) x17)] a w at h
      refine wp_exit ?_
      obtain rfl := Option.some.inj hF
      exact ⟨exit_ne _, rfl, q18, h.sub [2, 4, 5] (by rfl)⟩
  · clear hl35
    intro e a w hq
    cases cr34 with
    | ret r36 =>
      obtain ⟨rfl, hq⟩ := hq
      obtain rfl := Option.some.inj hF
      exact ⟨.inl rfl, hq⟩
    | next s37 =>
      obtain ⟨y38, y39, y40, y41⟩ := s37
      obtain ⟨rfl, q18, h⟩ := hq
      change SatL c [.slot 7 (eqVP q18), .res (Log_e p_1 y40), .res (acc q18 23 32 (dC 32) y41)] a w at h
      refine inBlock_at ?_
      show Code.wp Tryd.prog _ _ a w
      refine wp_seq ?_
      refine region_do (n := 28) [.slot 27 100000 100000 (fun _ _ => (eqVP q18)),
      .slot 6 100000 100000 (fun _ _ => (eqVP q18))] [0, 1] [⟨[0], [], [3], [], some 27⟩, ⟨[3], [], [4], [0], some 6⟩] [4, 1, 2] mixed hn hG h (by kernel_rfl) ?_ ?_
      · exact ⟨⟨rfl, fun β => (GOk.plain (op_move (opt 0 rfl)) rfl)⟩, ⟨rfl, fun β => (GOk.plain (op_assign (opt 0 rfl)) rfl)⟩, trivial⟩
      clear h
      intro β a w h
      change SatL c [.slot 6 (eqVP q18), .res (Log_e p_1 y40), .res (acc q18 23 32 (dC 32) y41)] a w at h
      clear β
      show Code.wp Tryd.prog _ _ a w
      refine wp_ret ?_
      obtain rfl := Option.some.inj hF
      exact ⟨.inl rfl, ret1 h Tryd.results52 (r_acc 0 2 rfl rfl) [1] [(Log_e p_1 y40)] rfl rfl rfl⟩

def keys_Signer_Again.j1 (a_0 : S_keys_Signer) (L_1 : Option O_Log) (a_2 : Int) (a_3 : List UInt8) (x4 : Bool) : Option (S_api_Sig × Int × (Option O_Log)) := (if x4 = true then some ((S_api_Sig.mk (0 : Int) [] [] []), 2, L_1) else ((lamport_Sign L_1 a_0.f_Seed a_2 a_3).bind fun r6 => ((keys_Signer_path a_0 r6.2.2 a_2).bind fun r7 => some ((S_api_Sig.mk a_2 r6.1 r6.2.1 r7.1), 0, r7.2))))
def keys_Signer_Again (a_0 : S_keys_Signer) (L_1 : Option O_Log) (a_2 : Int) (a_3 : List UInt8) : Option (S_api_Sig × Int × (Option O_Log)) := (if (!decide ((a_0.f_Leaves.length : Int) = (16 : Int))) = true then keys_Signer_Again.j1 a_0 L_1 a_2 a_3 true else (if (decide (a_2 < (0 : Int))) = true then keys_Signer_Again.j1 a_0 L_1 a_2 a_3 true else keys_Signer_Again.j1 a_0 L_1 a_2 a_3 (decide ((16 : Int) ≤ a_2))))
theorem keys_Signer_Again_ok {p_1 : Value} {a_0 : S_keys_Signer} {L_1 : Option O_Log} {a_2 : Int} {a_3 : List UInt8} {r : S_api_Sig × Int × (Option O_Log)} (hF : keys_Signer_Again a_0 L_1 a_2 a_3 = some r) : CallOk Tryd.prog KG 16 [(aggVP [bytesCk 32 a_0.f_Seed, one (intVP .i64 a_0.f_Next), one (slVP (dC 32) a_0.f_Leaves)]), (eqVP p_1), (intVP .i64 a_2), (aggVP [bytesCk 32 a_3])] [(Log_e p_1 L_1)] (fun _ => [Log_e p_1 r.2.2]) (tupVP [(aggVP [one (intVP .i64 r.1.f_Index), one (slVP (dC 32) r.1.f_Parts), one (slVP (dC 32) r.1.f_Others), one (slVP (dC 32) r.1.f_Path)]), (intVP .i64 r.2.1)]) := by
  refine CallOk.intro 42 Tryd.func16 rfl Tryd.ntmps16 (Nat.le_of_ble_eq_true rfl) ?_
  intro c a w hG hn h
  unfold keys_Signer_Again at hF
  change SatL c [.slot 0 (aggVP [bytesCk 32 a_0.f_Seed, one (intVP .i64 a_0.f_Next), one (slVP (dC 32) a_0.f_Leaves)]), .slot 1 (eqVP p_1), .slot 2 (intVP .i64 a_2), .slot 3 (aggVP [bytesCk 32 a_3]), .res (Log_e p_1 L_1)] a w at h
  refine wp_seq ?_
  refine region_do (n := 42) [.slot 4 0 100000 (fun v1_ _ => (lpVP v1_ 0)),
      .res 0 100000 (fun v1_ _ => (lb (v1_) 27 [bytesCk 32 a_0.f_Seed, one (intVP .i64 a_0.f_Next), one (slVP (dC 32) a_0.f_Leaves)])),
      .slot 7 1 100000 (fun v1_ _ => (lpVP v1_ 0)),
      .res 1 100000 (fun v1_ _ => (lb (v1_) 23 [bytesCk 32 a_3])),
      .slot 8 2 100000 (fun v1_ _ => (lpVP v1_ 0)),
      .res 2 100000 (fun v1_ _ => (lb (v1_) 31 [one (intVP .i64 ((S_api_Sig.mk (0 : Int) [] [] []).f_Index)), one (slVP (dC 32) ((S_api_Sig.mk (0 : Int) [] [] []).f_Parts)), one (slVP (dC 32) ((S_api_Sig.mk (0 : Int) [] [] []).f_Others)), one (slVP (dC 32) ((S_api_Sig.mk (0 : Int) [] [] []).f_Path))])),
      .slot 9 100000 100000 (fun _ _ => (intVP .i64 0))] [0, 0, 1, 1, 2, 2, 3] [⟨[0], [], [5, 6], [], some 4⟩, ⟨[3], [], [7, 8], [0], some 7⟩, ⟨[], [], [9, 10], [0, 1], some 8⟩, ⟨[], [], [11], [0, 1, 2], some 9⟩] [1, 2, 5, 7, 9, 4, 6, 8, 10] mixed hn hG h (by kernel_rfl) ?_ ?_
  · exact ⟨⟨rfl, fun β => (GOk.plain (op_box (opt 0 rfl) (cells_agg _)) rfl)⟩, ⟨rfl, fun β => (GOk.plain (op_box (opt 0 rfl) (cells_agg _)) rfl)⟩, ⟨rfl, fun β => (GOk.plain (op_alloc Tryd.zeroValue31 z31) rfl)⟩, ⟨rfl, fun β => (GOk.plain (op_assign (opc (ic (by decide)))) rfl)⟩, trivial⟩
  clear h
  intro β a w h
  change SatL c [.slot 1 (eqVP p_1), .slot 2 (intVP .i64 a_2), .slot 4 (lpVP (β 0) 0), .slot 7 (lpVP (β 1) 0), .slot 8 (lpVP (β 2) 0), .res (Log_e p_1 L_1), .res (lb (β 0) 27 [bytesCk 32 a_0.f_Seed, one (intVP .i64 a_0.f_Next), one (slVP (dC 32) a_0.f_Leaves)]), .res (lb (β 1) 23 [bytesCk 32 a_3]), .res (lb (β 2) 31 [one (intVP .i64 ((S_api_Sig.mk (0 : Int) [] [] []).f_Index)), one (slVP (dC 32) ((S_api_Sig.mk (0 : Int) [] [] []).f_Parts)), one (slVP (dC 32) ((S_api_Sig.mk (0 : Int) [] [] []).f_Others)), one (slVP (dC 32) ((S_api_Sig.mk (0 : Int) [] [] []).f_Path))])] a w at h
  generalize β 0 = p1 at h
  generalize β 1 = p2 at h
  generalize β 2 = p3 at h
  clear β
  show Code.wp Tryd.prog _ _ a w
  refine wp_seq ?_
  refine wp_seq ?_
  refine wp_cut (fun a w => ∃ (x4 : Bool), keys_Signer_Again.j1 a_0 L_1 a_2 a_3 x4 = some r ∧ SatL c [.slot 1 (eqVP p_1), .slot 2 (intVP .i64 a_2), .slot 4 (lpVP p1 0), .slot 7 (lpVP p2 0), .slot 8 (lpVP p3 0), .slot 23 (boolVP x4), .res (Log_e p_1 L_1), .res (lb p1 27 [bytesCk 32 a_0.f_Seed, one (intVP .i64 a_0.f_Next), one (slVP (dC 32) a_0.f_Leaves)]), .res (lb p2 23 [bytesCk 32 a_3]), .res (lb p3 31 [one (intVP .i64 ((S_api_Sig.mk (0 : Int) [] [] []).f_Index)), one (slVP (dC 32) ((S_api_Sig.mk (0 : Int) [] [] []).f_Parts)), one (slVP (dC 32) ((S_api_Sig.mk (0 : Int) [] [] []).f_Others)), one (slVP (dC 32) ((S_api_Sig.mk (0 : Int) [] [] []).f_Path))])] a w) ?_ ?_
  · rcases Bool.eq_false_or_eq_true (!decide ((a_0.f_Leaves.length : Int) = (16 : Int))) with hb8 | hb8
    · replace hF := tt_of hb8 hF
      refine region_do (n := 42) [.slot 12 100000 100000 (fun _ _ => (lpVP p1 33)),
      .slot 13 100000 100000 (fun _ _ => (slVP (dC 32) a_0.f_Leaves)),
      .slot 14 100000 100000 (fun _ _ => (intVP .i64 (a_0.f_Leaves.length : Int))),
      .slot 15 100000 100000 (fun _ _ => (boolVP (!decide ((a_0.f_Leaves.length : Int) = (16 : Int))))),
      .slot 16 100000 100000 (fun _ _ => (boolVP (!decide ((a_0.f_Leaves.length : Int) = (16 : Int))))),
      .slot 17 100000 100000 (fun _ _ => (eqVP undef)),
      .slot 18 100000 100000 (fun _ _ => (eqVP undef)),
      .slot 19 100000 100000 (fun _ _ => (boolVP true)),
      .slot 20 100000 100000 (fun _ _ => (boolVP true)),
      .slot 21 100000 100000 (fun _ _ => (eqVP undef)),
      .slot 22 100000 100000 (fun _ _ => (eqVP undef)),
      .slot 23 100000 100000 (fun _ _ => (boolVP true))] [0, 1, 2, 3, 4, 5, 6, 7, 8, 9, 10, 11] [⟨[2], [], [9], [], some 12⟩, ⟨[9, 6], [], [10], [0], some 13⟩, ⟨[10], [], [11], [0, 1], some 14⟩, ⟨[11], [], [12], [0, 1, 2], some 15⟩, ⟨[12], [], [13], [0, 1, 2, 3], some 16⟩, ⟨[13], [], [14], [0, 1, 2, 3, 4], some 17⟩, ⟨[13], [], [15], [0, 1, 2, 3, 4, 5], some 18⟩, ⟨[13], [], [16], [0, 1, 2, 3, 4, 5, 6], some 19⟩, ⟨[16], [], [17], [0, 1, 2, 3, 4, 5, 6, 7], some 20⟩, ⟨[17], [], [18], [0, 1, 2, 3, 4, 5, 6, 7, 8], some 21⟩, ⟨[17], [], [19], [0, 1, 2, 3, 4, 5, 6, 7, 8, 9], some 22⟩, ⟨[17], [], [20], [0, 1, 2, 3, 4, 5, 6, 7, 8, 9, 10], some 23⟩] [0, 1, 2, 3, 4, 20, 5, 6, 7, 8] mixed hn hG h (by kernel_rfl) ?_ ?_
      · exact ⟨⟨rfl, fun β => (GOk.plain (op_fieldAddr_lbm (p := p1) (n := 1) 0 33 Tryd.underlying27 rfl Tryd.sizeOf24 (by decide) (opt 0 rfl) rfl) rfl)⟩, ⟨rfl, fun β => (GOk.plain (op_load_lb1 [bytesCk 32 a_0.f_Seed, one (intVP .i64 a_0.f_Next)] [] 1 Tryd.isAgg24 (opt 0 rfl) rfl rfl) rfl)⟩, ⟨rfl, fun β => (GOk.plain (op_len_sl Tryd.underlying24 (opt 0 rfl)) rfl)⟩, ⟨rfl, fun β => (GOk.plain (op_bin bin_neq (opt 0 rfl) (opc (ic (by decide)))) rfl)⟩, ⟨rfl, fun β => (GOk.plain (op_move (opt 0 rfl)) rfl)⟩, ⟨rfl, fun β => (GOk.off_v (want := false) hb8 rfl rfl rfl rfl)⟩, ⟨rfl, fun β => (GOk.off_v (want := false) hb8 rfl rfl rfl rfl)⟩, ⟨rfl, fun β => (GOk.plain (op_pick_t hb8 (opt 0 rfl) (opc (bc _))) rfl)⟩, ⟨rfl, fun β => (GOk.plain (op_move (opt 0 rfl)) rfl)⟩, ⟨rfl, fun β => (GOk.off_v (want := false) rfl rfl rfl rfl rfl)⟩, ⟨rfl, fun β => (GOk.off_v (want := false) rfl rfl rfl rfl rfl)⟩, ⟨rfl, fun β => (GOk.plain (op_pick_t rfl (opt 0 rfl) (opc (bc _))) rfl)⟩, trivial⟩
      clear h
      intro β a w h
      change SatL c [.slot 1 (eqVP p_1), .slot 2 (intVP .i64 a_2), .slot 4 (lpVP p1 0), .slot 7 (lpVP p2 0), .slot 8 (lpVP p3 0), .slot 23 (boolVP true), .res (Log_e p_1 L_1), .res (lb p1 27 [bytesCk 32 a_0.f_Seed, one (intVP .i64 a_0.f_Next), one (slVP (dC 32) a_0.f_Leaves)]), .res (lb p2 23 [bytesCk 32 a_3]), .res (lb p3 31 [one (intVP .i64 ((S_api_Sig.mk (0 : Int) [] [] []).f_Index)), one (slVP (dC 32) ((S_api_Sig.mk (0 : Int) [] [] []).f_Parts)), one (slVP (dC 32) ((S_api_Sig.mk (0 : Int) [] [] []).f_Others)), one (slVP (dC 32) ((S_api_Sig.mk (0 : Int) [] [] []).f_Path))])] a w at h
      clear β
      exact ⟨true, hF, h.sub [0, 1, 2, 3, 4, 5, 6, 7, 8, 9] (by rfl)⟩
    · replace hF := ff_of hb8 hF
      rcases Bool.eq_false_or_eq_true (decide (a_2 < (0 : Int))) with hb9 | hb9
      · replace hF := tt_of hb9 hF
        refine region_do (n := 42) [.slot 12 100000 100000 (fun _ _ => (lpVP p1 33)),
      .slot 13 100000 100000 (fun _ _ => (slVP (dC 32) a_0.f_Leaves)),
      .slot 14 100000 100000 (fun _ _ => (intVP .i64 (a_0.f_Leaves.length : Int))),
      .slot 15 100000 100000 (fun _ _ => (boolVP (!decide ((a_0.f_Leaves.length : Int) = (16 : Int))))),
      .slot 16 100000 100000 (fun _ _ => (boolVP (!decide ((a_0.f_Leaves.length : Int) = (16 : Int))))),
      .slot 17 100000 100000 (fun _ _ => (intVP .i64 a_2)),
      .slot 18 100000 100000 (fun _ _ => (boolVP (decide (a_2 < (0 : Int))))),
      .slot 19 100000 100000 (fun _ _ => (boolVP (decide (a_2 < (0 : Int))))),
      .slot 20 100000 100000 (fun _ _ => (boolVP (decide (a_2 < (0 : Int))))),
      .slot 21 100000 100000 (fun _ _ => (eqVP undef)),
      .slot 22 100000 100000 (fun _ _ => (eqVP undef)),
      .slot 23 100000 100000 (fun _ _ => (boolVP true))] [0, 1, 2, 3, 4, 5, 6, 7, 8, 9, 10, 11] [⟨[2], [], [9], [], some 12⟩, ⟨[9, 6], [], [10], [0], some 13⟩, ⟨[10], [], [11], [0, 1], some 14⟩, ⟨[11], [], [12], [0, 1, 2], some 15⟩, ⟨[12], [], [13], [0, 1, 2, 3], some 16⟩, ⟨[13, 1], [], [14], [0, 1, 2, 3, 4], some 17⟩, ⟨[13, 14], [], [15], [0, 1, 2, 3, 4, 5], some 18⟩, ⟨[13, 15], [], [16], [0, 1, 2, 3, 4, 5, 6], some 19⟩, ⟨[16], [], [17], [0, 1, 2, 3, 4, 5, 6, 7], some 20⟩, ⟨[17], [], [18], [0, 1, 2, 3, 4, 5, 6, 7, 8], some 21⟩, ⟨[17], [], [19], [0, 1, 2, 3, 4, 5, 6, 7, 8, 9], some 22⟩, ⟨[17], [], [20], [0, 1, 2, 3, 4, 5, 6, 7, 8, 9, 10], some 23⟩] [0, 1, 2, 3, 4, 20, 5, 6, 7, 8] mixed hn hG h (by kernel_rfl) ?_ ?_
        · exact ⟨⟨rfl, fun β => (GOk.plain (op_fieldAddr_lbm (p := p1) (n := 1) 0 33 Tryd.underlying27 rfl Tryd.sizeOf24 (by decide) (opt 0 rfl) rfl) rfl)⟩, ⟨rfl, fun β => (GOk.plain (op_load_lb1 [bytesCk 32 a_0.f_Seed, one (intVP .i64 a_0.f_Next)] [] 1 Tryd.isAgg24 (opt 0 rfl) rfl rfl) rfl)⟩, ⟨rfl, fun β => (GOk.plain (op_len_sl Tryd.underlying24 (opt 0 rfl)) rfl)⟩, ⟨rfl, fun β => (GOk.plain (op_bin bin_neq (opt 0 rfl) (opc (ic (by decide)))) rfl)⟩, ⟨rfl, fun β => (GOk.plain (op_move (opt 0 rfl)) rfl)⟩, ⟨rfl, fun β => (GOk.on_eq hb8 rfl rfl rfl (op_move (opt 0 rfl)))⟩, ⟨rfl, fun β => (GOk.on_eq hb8 rfl rfl rfl (op_bin bin_lss (opt 0 rfl) (opc (ic (by decide)))))⟩, ⟨rfl, fun β => (GOk.plain (op_pick_f hb8 (opt 0 rfl) (opt 1 rfl)) rfl)⟩, ⟨rfl, fun β => (GOk.plain (op_move (opt 0 rfl)) rfl)⟩, ⟨rfl, fun β => (GOk.off_v (want := false) hb9 rfl rfl rfl rfl)⟩, ⟨rfl, fun β => (GOk.off_v (want := false) hb9 rfl rfl rfl rfl)⟩, ⟨rfl, fun β => (GOk.plain (op_pick_t hb9 (opt 0 rfl) (opc (bc _))) rfl)⟩, trivial⟩
        clear h
        intro β a w h
        change SatL c [.slot 1 (eqVP p_1), .slot 2 (intVP .i64 a_2), .slot 4 (lpVP p1 0), .slot 7 (lpVP p2 0), .slot 8 (lpVP p3 0), .slot 23 (boolVP true), .res (Log_e p_1 L_1), .res (lb p1 27 [bytesCk 32 a_0.f_Seed, one (intVP .i64 a_0.f_Next), one (slVP (dC 32) a_0.f_Leaves)]), .res (lb p2 23 [bytesCk 32 a_3]), .res (lb p3 31 [one (intVP .i64 ((S_api_Sig.mk (0 : Int) [] [] []).f_Index)), one (slVP (dC 32) ((S_api_Sig.mk (0 : Int) [] [] []).f_Parts)), one (slVP (dC 32) ((S_api_Sig.mk (0 : Int) [] [] []).f_Others)), one (slVP (dC 32) ((S_api_Sig.mk (0 : Int) [] [] []).f_Path))])] a w at h
        clear β
        exact ⟨true, hF, h.sub [0, 1, 2, 3, 4, 5, 6, 7, 8, 9] (by rfl)⟩
      · replace hF := ff_of hb9 hF
        refine region_do (n := 42) [.slot 12 100000 100000 (fun _ _ => (lpVP p1 33)),
      .slot 13 100000 100000 (fun _ _ => (slVP (dC 32) a_0.f_Leaves)),
      .slot 14 100000 100000 (fun _ _ => (intVP .i64 (a_0.f_Leaves.length : Int))),
      .slot 15 100000 100000 (fun _ _ => (boolVP (!decide ((a_0.f_Leaves.length : Int) = (16 : Int))))),
      .slot 16 100000 100000 (fun _ _ => (boolVP (!decide ((a_0.f_Leaves.length : Int) = (16 : Int))))),
      .slot 17 100000 100000 (fun _ _ => (intVP .i64 a_2)),
      .slot 18 100000 100000 (fun _ _ => (boolVP (decide (a_2 < (0 : Int))))),
      .slot 19 100000 100000 (fun _ _ => (boolVP (decide (a_2 < (0 : Int))))),
      .slot 20 100000 100000 (fun _ _ => (boolVP (decide (a_2 < (0 : Int))))),
      .slot 21 100000 100000 (fun _ _ => (intVP .i64 a_2)),
      .slot 22 100000 100000 (fun _ _ => (boolVP (decide ((16 : Int) ≤ a_2)))),
      .slot 23 100000 100000 (fun _ _ => (boolVP (decide ((16 : Int) ≤ a_2))))] [0, 1, 2, 3, 4, 5, 6, 7, 8, 9, 10, 11] [⟨[2], [], [9], [], some 12⟩, ⟨[9, 6], [], [10], [0], some 13⟩, ⟨[10], [], [11], [0, 1], some 14⟩, ⟨[11], [], [12], [0, 1, 2], some 15⟩, ⟨[12], [], [13], [0, 1, 2, 3], some 16⟩, ⟨[13, 1], [], [14], [0, 1, 2, 3, 4], some 17⟩, ⟨[13, 14], [], [15], [0, 1, 2, 3, 4, 5], some 18⟩, ⟨[13, 15], [], [16], [0, 1, 2, 3, 4, 5, 6], some 19⟩, ⟨[16], [], [17], [0, 1, 2, 3, 4, 5, 6, 7], some 20⟩, ⟨[17, 1], [], [18], [0, 1, 2, 3, 4, 5, 6, 7, 8], some 21⟩, ⟨[17, 18], [], [19], [0, 1, 2, 3, 4, 5, 6, 7, 8, 9], some 22⟩, ⟨[17, 19], [], [20], [0, 1, 2, 3, 4, 5, 6, 7, 8, 9, 10], some 23⟩] [0, 1, 2, 3, 4, 20, 5, 6, 7, 8] mixed hn hG h (by kernel_rfl) ?_ ?_
        · exact ⟨⟨rfl, fun β => (GOk.plain (op_fieldAddr_lbm (p := p1) (n := 1) 0 33 Tryd.underlying27 rfl Tryd.sizeOf24 (by decide) (opt 0 rfl) rfl) rfl)⟩, ⟨rfl, fun β => (GOk.plain (op_load_lb1 [bytesCk 32 a_0.f_Seed, one (intVP .i64 a_0.f_Next)] [] 1 Tryd.isAgg24 (opt 0 rfl) rfl rfl) rfl)⟩, ⟨rfl, fun β => (GOk.plain (op_len_sl Tryd.underlying24 (opt 0 rfl)) rfl)⟩, ⟨rfl, fun β => (GOk.plain (op_bin bin_neq (opt 0 rfl) (opc (ic (by decide)))) rfl)⟩, ⟨rfl, fun β => (GOk.plain (op_move (opt 0 rfl)) rfl)⟩, ⟨rfl, fun β => (GOk.on_eq hb8 rfl rfl rfl (op_move (opt 0 rfl)))⟩, ⟨rfl, fun β => (GOk.on_eq hb8 rfl rfl rfl (op_bin bin_lss (opt 0 rfl) (opc (ic (by decide)))))⟩, ⟨rfl, fun β => (GOk.plain (op_pick_f hb8 (opt 0 rfl) (opt 1 rfl)) rfl)⟩, ⟨rfl, fun β => (GOk.plain (op_move (opt 0 rfl)) rfl)⟩, ⟨rfl, fun β => (GOk.on_eq hb9 rfl rfl rfl (op_move (opt 0 rfl)))⟩, ⟨rfl, fun β => (GOk.on_eq hb9 rfl rfl rfl (op_bin bin_geq (opt 0 rfl) (opc (ic (by decide)))))⟩, ⟨rfl, fun β => (GOk.plain (op_pick_f hb9 (opt 0 rfl) (opt 1 rfl)) rfl)⟩, trivial⟩
        clear h
        intro β a w h
        change SatL c [.slot 1 (eqVP p_1), .slot 2 (intVP .i64 a_2), .slot 4 (lpVP p1 0), .slot 7 (lpVP p2 0), .slot 8 (lpVP p3 0), .slot 23 (boolVP (decide ((16 : Int) ≤ a_2))), .res (Log_e p_1 L_1), .res (lb p1 27 [bytesCk 32 a_0.f_Seed, one (intVP .i64 a_0.f_Next), one (slVP (dC 32) a_0.f_Leaves)]), .res (lb p2 23 [bytesCk 32 a_3]), .res (lb p3 31 [one (intVP .i64 ((S_api_Sig.mk (0 : Int) [] [] []).f_Index)), one (slVP (dC 32) ((S_api_Sig.mk (0 : Int) [] [] []).f_Parts)), one (slVP (dC 32) ((S_api_Sig.mk (0 : Int) [] [] []).f_Others)), one (slVP (dC 32) ((S_api_Sig.mk (0 : Int) [] [] []).f_Path))])] a w at h
        clear β
        exact ⟨decide ((16 : Int) ≤ a_2), hF, h.sub [0, 1, 2, 3, 4, 5, 6, 7, 8, 9] (by rfl)⟩
  · clear h hF
    rintro a w ⟨x4, hF, h⟩
    unfold keys_Signer_Again.j1 at hF
    show Code.wp Tryd.prog _ _ a w
    refine cond_L h 5 rfl (fun hb5 => ?_) (fun hb5 => ?_)
    · replace hF := tt_of hb5 hF
      replace h := h.sub [4, 6, 9] (by rfl)
      change SatL c [.slot 8 (lpVP p3 0), .res (Log_e p_1 L_1), .res (lb p3 31 [one (intVP .i64 ((S_api_Sig.mk (0 : Int) [] [] []).f_Index)), one (slVP (dC 32) ((S_api_Sig.mk (0 : Int) [] [] []).f_Parts)), one (slVP (dC 32) ((S_api_Sig.mk (0 : Int) [] [] []).f_Others)), one (slVP (dC 32) ((S_api_Sig.mk (0 : Int) [] [] []).f_Path))])] a w at h
      refine wp_seq ?_
      refine region_do (n := 42) [.slot 24 100000 100000 (fun _ _ => (aggVP [one (intVP .i64 (0 : Int)), one (slVP (dC 32) []), one (slVP (dC 32) []), one (slVP (dC 32) [])])),
      .res 100000 100000 (fun _ _ => (lb p3 31 [one (intVP .i64 (0 : Int)), one (slVP (dC 32) []), one (slVP (dC 32) []), one (slVP (dC 32) [])])),
      .slot 9 100000 100000 (fun _ _ => (intVP .i64 2))] [0, 1, 2] [⟨[], [], [3], [], some 24⟩, ⟨[0, 3], [2], [4], [0], none⟩, ⟨[], [], [5], [0, 1], some 9⟩] [0, 5, 1, 4] mixed hn hG h (by kernel_rfl) ?_ ?_
      · exact ⟨⟨rfl, fun β => (GOk.plain (op_build [] rfl bu31 z31 rfl) rfl)⟩, ⟨rfl, fun β => (GOk.plain (op_store_lb [] [one (intVP .i64 ((S_api_Sig.mk (0 : Int) [] [] []).f_Index)), one (slVP (dC 32) ((S_api_Sig.mk (0 : Int) [] [] []).f_Parts)), one (slVP (dC 32) ((S_api_Sig.mk (0 : Int) [] [] []).f_Others)), one (slVP (dC 32) ((S_api_Sig.mk (0 : Int) [] [] []).f_Path))] [] [one (intVP .i64 (0 : Int)), one (slVP (dC 32) []), one (slVP (dC 32) []), one (slVP (dC 32) [])] Tryd.sizeOf31 (opt 0 rfl) (opt 1 rfl) (cells_agg _) rfl rfl rfl) rfl)⟩, ⟨rfl, fun β => (GOk.plain (op_assign (opc (ic (by decide)))) rfl)⟩, trivial⟩
      clear h
      intro β a w h
      change SatL c [.slot 8 (lpVP p3 0), .slot 9 (intVP .i64 2), .res (Log_e p_1 L_1), .res (lb p3 31 [one (intVP .i64 (0 : Int)), one (slVP (dC 32) []), one (slVP (dC 32) []), one (slVP (dC 32) [])])] a w at h
      clear β
      show Code.wp Tryd.prog _ _ a w
      refine wp_ret ?_
      obtain rfl := Option.some.inj hF
      exact ⟨.inl rfl, retn h (rs := [.cell 8 31, .tmp 9]) (Vs := [(aggVP [one (intVP .i64 (0 : Int)), one (slVP (dC 32) []), one (slVP (dC 32) []), one (slVP (dC 32) [])]), (intVP .i64 2)]) Tryd.results16 (by decide) ⟨(r_cell 0 3 rfl rfl Tryd.isAgg31 Tryd.sizeOf31 rfl), (r_tmp 1 rfl), trivial⟩ [2] [(Log_e p_1 L_1)] rfl rfl rfl⟩
    · replace hF := ff_of hb5 hF
      replace h := h.sub [0, 1, 2, 3, 4, 6, 7, 8, 9] (by rfl)
      change SatL c [.slot 1 (eqVP p_1), .slot 2 (intVP .i64 a_2), .slot 4 (lpVP p1 0), .slot 7 (lpVP p2 0), .slot 8 (lpVP p3 0), .res (Log_e p_1 L_1), .res (lb p1 27 [bytesCk 32 a_0.f_Seed, one (intVP .i64 a_0.f_Next), one (slVP (dC 32) a_0.f_Leaves)]), .res (lb p2 23 [bytesCk 32 a_3]), .res (lb p3 31 [one (intVP .i64 ((S_api_Sig.mk (0 : Int) [] [] []).f_Index)), one (slVP (dC 32) ((S_api_Sig.mk (0 : Int) [] [] []).f_Parts)), one (slVP (dC 32) ((S_api_Sig.mk (0 : Int) [] [] []).f_Others)), one (slVP (dC 32) ((S_api_Sig.mk (0 : Int) [] [] []).f_Path))])] a w at h
      refine wp_skip ?_
      show Code.wp Tryd.prog _ _ a w
      refine wp_seq ?_
      obtain ⟨r6, hr6, hF⟩ := bind_some hF
      refine region_do (n := 42) [.slot 26 100000 100000 (fun _ _ => (eqVP p_1)),
      .slot 27 100000 100000 (fun _ _ => (lpVP p1 0)),
      .slot 28 100000 100000 (fun _ _ => (aggVP [bytesCk 32 a_0.f_Seed])),
      .slot 29 100000 100000 (fun _ _ => (intVP .i64 a_2)),
      .slot 30 100000 100000 (fun _ _ => (aggVP [bytesCk 32 a_3])),
      .slot 31 100000 100000 (fun _ _ => (tupVP [(slVP (dC 32) r6.1), (slVP (dC 32) r6.2.1)])),
      .res 100000 100000 (fun _ _ => (Log_e p_1 r6.2.2)),
      .slot 25 100000 100000 (fun _ _ => (tupVP [(slVP (dC 32) r6.1), (slVP (dC 32) r6.2.1)])),
      .slot 32 100000 100000 (fun _ _ => (slVP (dC 32) r6.1)),
      .slot 33 100000 100000 (fun _ _ => (slVP (dC 32) r6.2.1)),
      .slot 10 100000 100000 (fun _ _ => (slVP (dC 32) r6.1)),
      .slot 11 100000 100000 (fun _ _ => (slVP (dC 32) r6.2.1))] [0, 1, 2, 3, 4, 5, 5, 6, 7, 8, 9, 10] [⟨[0], [], [9], [], some 26⟩, ⟨[2], [], [10], [0], some 27⟩, ⟨[10, 6], [], [11], [0, 1], some 28⟩, ⟨[1], [], [12], [0, 1, 2], some 29⟩, ⟨[3, 7], [], [13], [0, 1, 2, 3], some 30⟩, ⟨[9, 11, 12, 13], [5], [14, 15], [0, 1, 2, 3, 4], some 31⟩, ⟨[14], [], [16], [0, 1, 2, 3, 4, 5], some 25⟩, ⟨[16], [], [17], [0, 1, 2, 3, 4, 5, 6], some 32⟩, ⟨[16], [], [18], [0, 1, 2, 3, 4, 5, 6, 7], some 33⟩, ⟨[17], [], [19], [0, 1, 2, 3, 4, 5, 6, 7, 8], some 10⟩, ⟨[18], [], [20], [0, 1, 2, 3, 4, 5, 6, 7, 8, 9], some 11⟩] [0, 1, 2, 4, 19, 20, 6, 8, 15] mixed hn hG h (by kernel_rfl) ?_ ?_
      · exact ⟨⟨rfl, fun β => (GOk.plain (op_move (opt 0 rfl)) rfl)⟩, ⟨rfl, fun β => (GOk.plain (op_fieldAddr_lbm (p := p1) (n := 32) 0 0 Tryd.underlying27 rfl Tryd.sizeOf23 (by decide) (opt 0 rfl) rfl) rfl)⟩, ⟨rfl, fun β => (GOk.plain (op_load_lb [] [bytesCk 32 a_0.f_Seed] [one (intVP .i64 a_0.f_Next), one (slVP (dC 32) a_0.f_Leaves)] 1 Tryd.isAgg23 Tryd.sizeOf23 (opt 0 rfl) rfl rfl rfl) rfl)⟩, ⟨rfl, fun β => (GOk.plain (op_move (opt 0 rfl)) rfl)⟩, ⟨rfl, fun β => (GOk.plain (op_load_lb [] [bytesCk 32 a_3] [] 1 Tryd.isAgg23 Tryd.sizeOf23 (opt 0 rfl) rfl rfl rfl) rfl)⟩, ⟨rfl, fun β => (GOk.plain (op_call Tryd.call51 (lamport_Sign_ok hr6) ⟨(opt 0 rfl), (opt 1 rfl), (opt 2 rfl), (opt 3 rfl), trivial⟩) rfl)⟩, ⟨rfl, fun β => (GOk.plain (op_move (opt 0 rfl)) rfl)⟩, ⟨rfl, fun β => (GOk.plain (op_extract (opt 0 rfl) rfl) rfl)⟩, ⟨rfl, fun β => (GOk.plain (op_extract (opt 0 rfl) rfl) rfl)⟩, ⟨rfl, fun β => (GOk.plain (op_assign (opt 0 rfl)) rfl)⟩, ⟨rfl, fun β => (GOk.plain (op_assign (opt 0 rfl)) rfl)⟩, trivial⟩
      clear h
      intro β a w h
      change SatL c [.slot 1 (eqVP p_1), .slot 2 (intVP .i64 a_2), .slot 4 (lpVP p1 0), .slot 8 (lpVP p3 0), .slot 10 (slVP (dC 32) r6.1), .slot 11 (slVP (dC 32) r6.2.1), .res (lb p1 27 [bytesCk 32 a_0.f_Seed, one (intVP .i64 a_0.f_Next), one (slVP (dC 32) a_0.f_Leaves)]), .res (lb p3 31 [one (intVP .i64 ((S_api_Sig.mk (0 : Int) [] [] []).f_Index)), one (slVP (dC 32) ((S_api_Sig.mk (0 : Int) [] [] []).f_Parts)), one (slVP (dC 32) ((S_api_Sig.mk (0 : Int) [] [] []).f_Others)), one (slVP (dC 32) ((S_api_Sig.mk (0 : Int) [] [] []).f_Path))]), .res (Log_e p_1 r6.2.2)] a w at h
      clear β
      show Code.wp Tryd.prog _ _ a w
      refine wp_seq ?_
      obtain ⟨r7, hr7, hF⟩ := bind_some hF
      refine region_do (n := 42) [.slot 34 100000 100000 (fun _ _ => (intVP .i64 a_2)),
      .slot 35 100000 100000 (fun _ _ => (slVP (dC 32) r6.1)),
      .slot 36 100000 100000 (fun _ _ => (slVP (dC 32) r6.2.1)),
      .slot 37 100000 100000 (fun _ _ => (aggVP [bytesCk 32 a_0.f_Seed, one (intVP .i64 a_0.f_Next), one (slVP (dC 32) a_0.f_Leaves)])),
      .slot 38 100000 100000 (fun _ _ => (eqVP p_1)),
      .slot 39 100000 100000 (fun _ _ => (intVP .i64 a_2)),
      .slot 40 100000 100000 (fun _ _ => (slVP (dC 32) r7.1)),
      .res 100000 100000 (fun _ _ => (Log_e p_1 r7.2)),
      .slot 41 100000 100000 (fun _ _ => (aggVP [one (intVP .i64 a_2), one (slVP (dC 32) r6.1), one (slVP (dC 32) r6.2.1), one (slVP (dC 32) r7.1)])),
      .res 100000 100000 (fun _ _ => (lb p3 31 [one (intVP .i64 a_2), one (slVP (dC 32) r6.1), one (slVP (dC 32) r6.2.1), one (slVP (dC 32) r7.1)])),
      .slot 9 100000 100000 (fun _ _ => (intVP .i64 0))] [0, 1, 2, 3, 4, 5, 6, 6, 7, 8, 9] [⟨[1], [], [9], [], some 34⟩, ⟨[4], [], [10], [0], some 35⟩, ⟨[5], [], [11], [0, 1], some 36⟩, ⟨[2, 6], [], [12], [0, 1, 2], some 37⟩, ⟨[0], [], [13], [0, 1, 2, 3], some 38⟩, ⟨[1], [], [14], [0, 1, 2, 3, 4], some 39⟩, ⟨[12, 13, 14], [8], [15, 16], [0, 1, 2, 3, 4, 5], some 40⟩, ⟨[9, 10, 11, 15], [], [17], [0, 1, 2, 3, 4, 5, 6], some 41⟩, ⟨[3, 17], [7], [18], [0, 1, 2, 3, 4, 5, 6, 7], none⟩, ⟨[], [], [19], [0, 1, 2, 3, 4, 5, 6, 7, 8], some 9⟩] [3, 19, 18, 16] mixed hn hG h (by kernel_rfl) ?_ ?_
      · exact ⟨⟨rfl, fun β => (GOk.plain (op_move (opt 0 rfl)) rfl)⟩, ⟨rfl, fun β => (GOk.plain (op_move (opt 0 rfl)) rfl)⟩, ⟨rfl, fun β => (GOk.plain (op_move (opt 0 rfl)) rfl)⟩, ⟨rfl, fun β => (GOk.plain (op_load_lb [] [bytesCk 32 a_0.f_Seed, one (intVP .i64 a_0.f_Next), one (slVP (dC 32) a_0.f_Leaves)] [] 1 Tryd.isAgg27 Tryd.sizeOf27 (opt 0 rfl) rfl rfl rfl) rfl)⟩, ⟨rfl, fun β => (GOk.plain (op_move (opt 0 rfl)) rfl)⟩, ⟨rfl, fun β => (GOk.plain (op_move (opt 0 rfl)) rfl)⟩, ⟨rfl, fun β => (GOk.plain (op_call Tryd.call52 (keys_Signer_path_ok hr7) ⟨(opt 0 rfl), (opt 1 rfl), (opt 2 rfl), trivial⟩) rfl)⟩, ⟨rfl, fun β => (GOk.plain (op_build [(0, .tmp 34), (1, .tmp 35), (2, .tmp 36), (3, .tmp 40)] rfl bu31 z31 ⟨[], [one (intVP .i64 (0 : Int))], [one (slVP (dC 32) []), one (slVP (dC 32) []), one (slVP (dC 32) [])], [one (intVP .i64 a_2)], _, rfl, rfl, rfl, (opt 0 rfl), (cells_one (one_int _ _)), ⟨[one (intVP .i64 a_2)], [one (slVP (dC 32) [])], [one (slVP (dC 32) []), one (slVP (dC 32) [])], [one (slVP (dC 32) r6.1)], _, rfl, rfl, rfl, (opt 1 rfl), (cells_one (one_sl _ _)), ⟨[one (intVP .i64 a_2), one (slVP (dC 32) r6.1)], [one (slVP (dC 32) [])], [one (slVP (dC 32) [])], [one (slVP (dC 32) r6.2.1)], _, rfl, rfl, rfl, (opt 2 rfl), (cells_one (one_sl _ _)), ⟨[one (intVP .i64 a_2), one (slVP (dC 32) r6.1), one (slVP (dC 32) r6.2.1)], [one (slVP (dC 32) [])], [], [one (slVP (dC 32) r7.1)], _, rfl, rfl, rfl, (opt 3 rfl), (cells_one (one_sl _ _)), rfl⟩⟩⟩⟩) rfl)⟩, ⟨rfl, fun β => (GOk.plain (op_store_lb [] [one (intVP .i64 ((S_api_Sig.mk (0 : Int) [] [] []).f_Index)), one (slVP (dC 32) ((S_api_Sig.mk (0 : Int) [] [] []).f_Parts)), one (slVP (dC 32) ((S_api_Sig.mk (0 : Int) [] [] []).f_Others)), one (slVP (dC 32) ((S_api_Sig.mk (0 : Int) [] [] []).f_Path))] [] [one (intVP .i64 a_2), one (slVP (dC 32) r6.1), one (slVP (dC 32) r6.2.1), one (slVP (dC 32) r7.1)] Tryd.sizeOf31 (opt 0 rfl) (opt 1 rfl) (cells_agg _) rfl rfl rfl) rfl)⟩, ⟨rfl, fun β => (GOk.plain (op_assign (opc (ic (by decide)))) rfl)⟩, trivial⟩
      clear h
      intro β a w h
      change SatL c [.slot 8 (lpVP p3 0), .slot 9 (intVP .i64 0), .res (lb p3 31 [one (intVP .i64 a_2), one (slVP (dC 32) r6.1), one (slVP (dC 32) r6.2.1), one (slVP (dC 32) r7.1)]), .res (Log_e p_1 r7.2)] a w at h
      clear β
      show Code.wp Tryd.prog _ _ a w
      refine wp_ret ?_
      obtain rfl := Option.some.inj hF
      exact ⟨.inl rfl, retn h (rs := [.cell 8 31, .tmp 9]) (Vs := [(aggVP [one (intVP .i64 a_2), one (slVP (dC 32) r6.1), one (slVP (dC 32) r6.2.1), one (slVP (dC 32) r7.1)]), (intVP .i64 0)]) Tryd.results16 (by decide) ⟨(r_cell 0 2 rfl rfl Tryd.isAgg31 Tryd.sizeOf31 rfl), (r_tmp 1 rfl), trivial⟩ [3] [(Log_e p_1 r7.2)] rfl rfl rfl⟩

def slices_Clone_api_Digest (a_0 : List (List UInt8)) : Option (List (List UInt8)) := (if a_0.length * 32 ≤ 140737488355328 then some a_0 else none)
theorem slices_Clone_api_Digest_ok {a_0 r : List (List UInt8)} (hF : slices_Clone_api_Digest a_0 = some r) : CallOk Tryd.prog KG 50 [(slVP (dC 32) a_0)] [] (fun _ => []) (slVP (dC 32) r) := by
  unfold slices_Clone_api_Digest at hF
  obtain ⟨hv1, hF⟩ := ite_some hF
  obtain rfl := Option.some.inj hF
  refine CallOk.intro 8 Tryd.func50 rfl Tryd.ntmps50 (Nat.le_of_ble_eq_true rfl) ?_
  intro c a w hG hn h
  change SatL c [.slot 0 (slVP (dC 32) a_0)] a w at h
  refine wp_seq ?_
  refine region_do (n := 8) [.slot 2 100000 100000 (fun _ _ => (eqVP (.slice none 0 0)))] [0] [⟨[], [], [1], [], some 2⟩] [0] mixed hn hG h (by kernel_rfl) ?_ ?_
  · exact ⟨⟨rfl, fun β => (GOk.plain (op_assign (opc (ec _))) rfl)⟩, trivial⟩
  clear h
  intro β a w h
  change SatL c [.slot 0 (slVP (dC 32) a_0)] a w at h
  clear β
  show Code.wp Tryd.prog _ _ a w
  refine wp_seq ?_
  refine wp_seq ?_
  refine region_do (n := 8) [.slot 3 100000 100000 (fun _ _ => (slVP (dC 32) a_0)), .slot 4 100000 100000 (fun _ _ => (nilqVP a_0))] [0, 1] [⟨[0], [], [1], [], some 3⟩, ⟨[1], [], [2], [0], some 4⟩] [0, 2] mixed hn hG h (by kernel_rfl) ?_ ?_
  · exact ⟨⟨rfl, fun β => (GOk.plain (op_move (opt 0 rfl)) rfl)⟩, ⟨rfl, fun β => (GOk.plain (op_bin (bin_slnil Tryd.underlying24) (opt 0 rfl) (opc (ec _))) rfl)⟩, trivial⟩
  clear h
  intro β a w h
  change SatL c [.slot 0 (slVP (dC 32) a_0), .slot 4 (nilqVP a_0)] a w at h
  clear β
  show Code.wp Tryd.prog _ _ a w
  obtain ⟨b0, hb0, h⟩ := h.nilq 1 rfl
  change SatL c [.slot 0 (slVP (dC 32) a_0), .slot 4 (boolVP b0)] a w at h
  refine cond_L h 1 rfl (fun hb => ?_) (fun hb => ?_)
  · obtain rfl := hb0 hb
    replace h := h.sub [] (by rfl)
    change SatL c [] a w at h
    refine wp_seq ?_
    refine region_do (n := 8) [.slot 2 100000 100000 (fun _ _ => (eqVP (.slice none 0 0)))] [0] [⟨[], [], [0], [], some 2⟩] [0] mixed hn hG h (by kernel_rfl) ?_ ?_
    · exact ⟨⟨rfl, fun β => (GOk.plain (op_assign (opc (ec _))) rfl)⟩, trivial⟩
    clear h
    intro β a w h
    change SatL c [.slot 2 (eqVP (.slice none 0 0))] a w at h
    clear β
    show Code.wp Tryd.prog _ _ a w
    refine wp_ret ?_
    exact ⟨.inl rfl, ret1 h Tryd.results50 (r_nil 0 rfl) [] [] rfl rfl rfl⟩
  · replace h := h.sub [0] (by rfl)
    change SatL c [.slot 0 (slVP (dC 32) a_0)] a w at h
    refine wp_skip ?_
    show Code.wp Tryd.prog _ _ a w
    refine wp_seq ?_
    refine region_do (n := 8) [.slot 5 100000 100000 (fun _ _ => empVP), .slot 6 100000 100000 (fun _ _ => (slVP (dC 32) a_0)), .slot 7 100000 100000 (fun _ _ => (slVP (dC 32) a_0)), .slot 2 100000 100000 (fun _ _ => (slVP (dC 32) a_0))] [0, 1, 2, 3] [⟨[], [], [1], [], some 5⟩, ⟨[0], [], [2], [0], some 6⟩, ⟨[1, 2], [], [3], [0, 1], some 7⟩, ⟨[3], [], [4], [0, 1, 2], some 2⟩] [4] mixed hn hG h (by kernel_rfl) ?_ ?_
    · exact ⟨⟨rfl, fun β => (GOk.plain (op_lit0 Tryd.underlying24 Tryd.sizeOf23 Tryd.zeroValue23) rfl)⟩, ⟨rfl, fun β => (GOk.plain (op_move (opt 0 rfl)) rfl)⟩, ⟨rfl, fun β => (GOk.plain (op_append_emp (i := Tryd.t23) Tryd.underlying24 Tryd.type23 rfl (lens_dC 32) (by decide) rfl (opt 0 rfl) (opt 1 rfl) hv1) rfl)⟩, ⟨rfl, fun β => (GOk.plain (op_assign (opt 0 rfl)) rfl)⟩, trivial⟩
    clear h
    intro β a w h
    change SatL c [.slot 2 (slVP (dC 32) a_0)] a w at h
    clear β
    show Code.wp Tryd.prog _ _ a w
    refine wp_ret ?_
    exact ⟨.inl rfl, ret1 h Tryd.results50 (r_tmp 0 rfl) [] [] rfl rfl rfl⟩

def keys_Signer_Sign.j1 (a_0 : S_keys_Signer) (L_1 : Option O_Log) (a_2 : List UInt8) (x5 : Bool) : Option (S_keys_Signer × S_api_Sig × Int × (Option O_Log)) := (if x5 = true then some (a_0, (S_api_Sig.mk (0 : Int) [] [] []), 22, L_1) else ((keys_Signer_Again a_0 L_1 a_0.f_Next a_2).bind fun r7 => (if (!decide (r7.2.1 = (0 : Int))) = true then some (a_0, (S_api_Sig.mk (0 : Int) [] [] []), r7.2.1, r7.2.2) else ((slices_Clone_api_Digest a_0.f_Leaves).bind fun r10 => some ((S_keys_Signer.mk a_0.f_Seed (IntKind.wrap .i64 (a_0.f_Next + 1)) r10), r7.1, 0, r7.2.2)))))
def keys_Signer_Sign (a_0 : S_keys_Signer) (L_1 : Option O_Log) (a_2 : List UInt8) : Option (S_keys_Signer × S_api_Sig × Int × (Option O_Log)) := (if (decide (a_0.f_Next < (0 : Int))) = true then keys_Signer_Sign.j1 a_0 L_1 a_2 true else keys_Signer_Sign.j1 a_0 L_1 a_2 (decide ((16 : Int) ≤ a_0.f_Next)))
theorem keys_Signer_Sign_ok {p_1 : Value} {a_0 : S_keys_Signer} {L_1 : Option O_Log} {a_2 : List UInt8} {r : S_keys_Signer × S_api_Sig × Int × (Option O_Log)} (hF : keys_Signer_Sign a_0 L_1 a_2 = some r) : CallOk Tryd.prog KG 14 [(aggVP [bytesCk 32 a_0.f_Seed, one (intVP .i64 a_0.f_Next), one (slVP (dC 32) a_0.f_Leaves)]), (eqVP p_1), (aggVP [bytesCk 32 a_2])] [(Log_e p_1 L_1)] (fun _ => [Log_e p_1 r.2.2.2]) (tupVP [(aggVP [bytesCk 32 r.1.f_Seed, one (intVP .i64 r.1.f_Next), one (slVP (dC 32) r.1.f_Leaves)]), (aggVP [one (intVP .i64 r.2.1.f_Index), one (slVP (dC 32) r.2.1.f_Parts), one (slVP (dC 32) r.2.1.f_Others), one (slVP (dC 32) r.2.1.f_Path)]), (intVP .i64 r.2.2.1)]) := by
  refine CallOk.intro 45 Tryd.func14 rfl Tryd.ntmps14 (Nat.le_of_ble_eq_true rfl) ?_
  intro c a w hG hn h
  unfold keys_Signer_Sign at hF
  change SatL c [.slot 0 (aggVP [bytesCk 32 a_0.f_Seed, one (intVP .i64 a_0.f_Next), one (slVP (dC 32) a_0.f_Leaves)]), .slot 1 (eqVP p_1), .slot 2 (aggVP [bytesCk 32 a_2]), .res (Log_e p_1 L_1)] a w at h
  refine wp_seq ?_
  refine region_do (n := 45) [.slot 3 0 100000 (fun v1_ _ => (lpVP v1_ 0)),
      .res 0 100000 (fun v1_ _ => (lb (v1_) 27 [bytesCk 32 a_0.f_Seed, one (intVP .i64 a_0.f_Next), one (slVP (dC 32) a_0.f_Leaves)])),
      .slot 5 1 100000 (fun v1_ _ => (lpVP v1_ 0)),
      .res 1 100000 (fun v1_ _ => (lb (v1_) 23 [bytesCk 32 a_2])),
      .slot 6 2 100000 (fun v1_ _ => (lpVP v1_ 0)),
      .res 2 100000 (fun v1_ _ => (lb (v1_) 27 [bytesCk 32 ((S_keys_Signer.mk (List.replicate 32 0) (0 : Int) []).f_Seed), one (intVP .i64 ((S_keys_Signer.mk (List.replicate 32 0) (0 : Int) []).f_Next)), one (slVP (dC 32) ((S_keys_Signer.mk (List.replicate 32 0) (0 : Int) []).f_Leaves))])),
      .slot 7 3 100000 (fun v1_ _ => (lpVP v1_ 0)),
      .res 3 100000 (fun v1_ _ => (lb (v1_) 31 [one (intVP .i64 ((S_api_Sig.mk (0 : Int) [] [] []).f_Index)), one (slVP (dC 32) ((S_api_Sig.mk (0 : Int) [] [] []).f_Parts)), one (slVP (dC 32) ((S_api_Sig.mk (0 : Int) [] [] []).f_Others)), one (slVP (dC 32) ((S_api_Sig.mk (0 : Int) [] [] []).f_Path))])),
      .slot 8 100000 100000 (fun _ _ => (intVP .i64 0))] [0, 0, 1, 1, 2, 2, 3, 3, 4] [⟨[0], [], [4, 5], [], some 3⟩, ⟨[2], [], [6, 7], [0], some 5⟩, ⟨[], [], [8, 9], [0, 1], some 6⟩, ⟨[], [], [10, 11], [0, 1, 2], some 7⟩, ⟨[], [], [12], [0, 1, 2, 3], some 8⟩] [1, 4, 6, 8, 10, 3, 5, 7, 9, 11] mixed hn hG h (by kernel_rfl) ?_ ?_
  · exact ⟨⟨rfl, fun β => (GOk.plain (op_box (opt 0 rfl) (cells_agg _)) rfl)⟩, ⟨rfl, fun β => (GOk.plain (op_box (opt 0 rfl) (cells_agg _)) rfl)⟩, ⟨rfl, fun β => (GOk.plain (op_alloc Tryd.zeroValue27 z27) rfl)⟩, ⟨rfl, fun β => (GOk.plain (op_alloc Tryd.zeroValue31 z31) rfl)⟩, ⟨rfl, fun β => (GOk.plain (op_assign (opc (ic (by decide)))) rfl)⟩, trivial⟩
  clear h
  intro β a w h
  change SatL c [.slot 1 (eqVP p_1), .slot 3 (lpVP (β 0) 0), .slot 5 (lpVP (β 1) 0), .slot 6 (lpVP (β 2) 0), .slot 7 (lpVP (β 3) 0), .res (Log_e p_1 L_1), .res (lb (β 0) 27 [bytesCk 32 a_0.f_Seed, one (intVP .i64 a_0.f_Next), one (slVP (dC 32) a_0.f_Leaves)]), .res (lb (β 1) 23 [bytesCk 32 a_2]), .res (lb (β 2) 27 [bytesCk 32 ((S_keys_Signer.mk (List.replicate 32 0) (0 : Int) []).f_Seed), one (intVP .i64 ((S_keys_Signer.mk (List.replicate 32 0) (0 : Int) []).f_Next)), one (slVP (dC 32) ((S_keys_Signer.mk (List.replicate 32 0) (0 : Int) []).f_Leaves))]), .res (lb (β 3) 31 [one (intVP .i64 ((S_api_Sig.mk (0 : Int) [] [] []).f_Index)), one (slVP (dC 32) ((S_api_Sig.mk (0 : Int) [] [] []).f_Parts)), one (slVP (dC 32) ((S_api_Sig.mk (0 : Int) [] [] []).f_Others)), one (slVP (dC 32) ((S_api_Sig.mk (0 : Int) [] [] []).f_Path))])] a w at h
  generalize β 0 = p1 at h
  generalize β 1 = p2 at h
  generalize β 2 = p3 at h
  generalize β 3 = p4 at h
  clear β
  show Code.wp Tryd.prog _ _ a w
  refine wp_seq ?_
  refine wp_seq ?_
  refine wp_cut (fun a w => ∃ (x5 : Bool), keys_Signer_Sign.j1 a_0 L_1 a_2 x5 = some r ∧ SatL c [.slot 1 (eqVP p_1), .slot 3 (lpVP p1 0), .slot 5 (lpVP p2 0), .slot 6 (lpVP p3 0), .slot 7 (lpVP p4 0), .slot 18 (boolVP x5), .res (Log_e p_1 L_1), .res (lb p1 27 [bytesCk 32 a_0.f_Seed, one (intVP .i64 a_0.f_Next), one (slVP (dC 32) a_0.f_Leaves)]), .res (lb p2 23 [bytesCk 32 a_2]), .res (lb p3 27 [bytesCk 32 ((S_keys_Signer.mk (List.replicate 32 0) (0 : Int) []).f_Seed), one (intVP .i64 ((S_keys_Signer.mk (List.replicate 32 0) (0 : Int) []).f_Next)), one (slVP (dC 32) ((S_keys_Signer.mk (List.replicate 32 0) (0 : Int) []).f_Leaves))]), .res (lb p4 31 [one (intVP .i64 ((S_api_Sig.mk (0 : Int) [] [] []).f_Index)), one (slVP (dC 32) ((S_api_Sig.mk (0 : Int) [] [] []).f_Parts)), one (slVP (dC 32) ((S_api_Sig.mk (0 : Int) [] [] []).f_Others)), one (slVP (dC 32) ((S_api_Sig.mk (0 : Int) [] [] []).f_Path))])] a w) ?_ ?_
  · rcases Bool.eq_false_or_eq_true (decide (a_0.f_Next < (0 : Int))) with hb11 | hb11
    · replace hF := tt_of hb11 hF
      refine region_do (n := 45) [.slot 11 100000 100000 (fun _ _ => (lpVP p1 32)),
      .slot 12 100000 100000 (fun _ _ => (intVP .i64 a_0.f_Next)),
      .slot 13 100000 100000 (fun _ _ => (boolVP (decide (a_0.f_Next < (0 : Int))))),
      .slot 14 100000 100000 (fun _ _ => (boolVP (decide (a_0.f_Next < (0 : Int))))),
      .slot 15 100000 100000 (fun _ _ => (eqVP undef)),
      .slot 16 100000 100000 (fun _ _ => (eqVP undef)),
      .slot 17 100000 100000 (fun _ _ => (eqVP undef)),
      .slot 18 100000 100000 (fun _ _ => (boolVP true))] [0, 1, 2, 3, 4, 5, 6, 7] [⟨[1], [], [10], [], some 11⟩, ⟨[10, 6], [], [11], [0], some 12⟩, ⟨[11], [], [12], [0, 1], some 13⟩, ⟨[12], [], [13], [0, 1, 2], some 14⟩, ⟨[13], [], [14], [0, 1, 2, 3], some 15⟩, ⟨[13], [], [15], [0, 1, 2, 3, 4], some 16⟩, ⟨[13], [], [16], [0, 1, 2, 3, 4, 5], some 17⟩, ⟨[13], [], [17], [0, 1, 2, 3, 4, 5, 6], some 18⟩] [0, 1, 2, 3, 4, 17, 5, 6, 7, 8, 9] mixed hn hG h (by kernel_rfl) ?_ ?_
      · exact ⟨⟨rfl, fun β => (GOk.plain (op_fieldAddr_lbm (p := p1) (n := 1) 0 32 Tryd.underlying27 rfl Tryd.sizeOf3 (by decide) (opt 0 rfl) rfl) rfl)⟩, ⟨rfl, fun β => (GOk.plain (op_load_lb1 [bytesCk 32 a_0.f_Seed] [one (slVP (dC 32) a_0.f_Leaves)] 1 Tryd.isAgg3 (opt 0 rfl) rfl rfl) rfl)⟩, ⟨rfl, fun β => (GOk.plain (op_bin bin_lss (opt 0 rfl) (opc (ic (by decide)))) rfl)⟩, ⟨rfl, fun β => (GOk.plain (op_move (opt 0 rfl)) rfl)⟩, ⟨rfl, fun β => (GOk.off_v (want := false) hb11 rfl rfl rfl rfl)⟩, ⟨rfl, fun β => (GOk.off_v (want := false) hb11 rfl rfl rfl rfl)⟩, ⟨rfl, fun β => (GOk.off_v (want := false) hb11 rfl rfl rfl rfl)⟩, ⟨rfl, fun β => (GOk.plain (op_pick_t hb11 (opt 0 rfl) (opc (bc _))) rfl)⟩, trivial⟩
      clear h
      intro β a w h
      change SatL c [.slot 1 (eqVP p_1), .slot 3 (lpVP p1 0), .slot 5 (lpVP p2 0), .slot 6 (lpVP p3 0), .slot 7 (lpVP p4 0), .slot 18 (boolVP true), .res (Log_e p_1 L_1), .res (lb p1 27 [bytesCk 32 a_0.f_Seed, one (intVP .i64 a_0.f_Next), one (slVP (dC 32) a_0.f_Leaves)]), .res (lb p2 23 [bytesCk 32 a_2]), .res (lb p3 27 [bytesCk 32 ((S_keys_Signer.mk (List.replicate 32 0) (0 : Int) []).f_Seed), one (intVP .i64 ((S_keys_Signer.mk (List.replicate 32 0) (0 : Int) []).f_Next)), one (slVP (dC 32) ((S_keys_Signer.mk (List.replicate 32 0) (0 : Int) []).f_Leaves))]), .res (lb p4 31 [one (intVP .i64 ((S_api_Sig.mk (0 : Int) [] [] []).f_Index)), one (slVP (dC 32) ((S_api_Sig.mk (0 : Int) [] [] []).f_Parts)), one (slVP (dC 32) ((S_api_Sig.mk (0 : Int) [] [] []).f_Others)), one (slVP (dC 32) ((S_api_Sig.mk (0 : Int) [] [] []).f_Path))])] a w at h
      clear β
      exact ⟨true, hF, h.sub [0, 1, 2, 3, 4, 5, 6, 7, 8, 9, 10] (by rfl)⟩
    · replace hF := ff_of hb11 hF
      refine region_do (n := 45) [.slot 11 100000 100000 (fun _ _ => (lpVP p1 32)),
      .slot 12 100000 100000 (fun _ _ => (intVP .i64 a_0.f_Next)),
      .slot 13 100000 100000 (fun _ _ => (boolVP (decide (a_0.f_Next < (0 : Int))))),
      .slot 14 100000 100000 (fun _ _ => (boolVP (decide (a_0.f_Next < (0 : Int))))),
      .slot 15 100000 100000 (fun _ _ => (lpVP p1 32)),
      .slot 16 100000 100000 (fun _ _ => (intVP .i64 a_0.f_Next)),
      .slot 17 100000 100000 (fun _ _ => (boolVP (decide ((16 : Int) ≤ a_0.f_Next)))),
      .slot 18 100000 100000 (fun _ _ => (boolVP (decide ((16 : Int) ≤ a_0.f_Next))))] [0, 1, 2, 3, 4, 5, 6, 7] [⟨[1], [], [10], [], some 11⟩, ⟨[10, 6], [], [11], [0], some 12⟩, ⟨[11], [], [12], [0, 1], some 13⟩, ⟨[12], [], [13], [0, 1, 2], some 14⟩, ⟨[13, 1], [], [14], [0, 1, 2, 3], some 15⟩, ⟨[13, 14, 6], [], [15], [0, 1, 2, 3, 4], some 16⟩, ⟨[13, 15], [], [16], [0, 1, 2, 3, 4, 5], some 17⟩, ⟨[13, 16], [], [17], [0, 1, 2, 3, 4, 5, 6], some 18⟩] [0, 1, 2, 3, 4, 17, 5, 6, 7, 8, 9] mixed hn hG h (by kernel_rfl) ?_ ?_
      · exact ⟨⟨rfl, fun β => (GOk.plain (op_fieldAddr_lbm (p := p1) (n := 1) 0 32 Tryd.underlying27 rfl Tryd.sizeOf3 (by decide) (opt 0 rfl) rfl) rfl)⟩, ⟨rfl, fun β => (GOk.plain (op_load_lb1 [bytesCk 32 a_0.f_Seed] [one (slVP (dC 32) a_0.f_Leaves)] 1 Tryd.isAgg3 (opt 0 rfl) rfl rfl) rfl)⟩, ⟨rfl, fun β => (GOk.plain (op_bin bin_lss (opt 0 rfl) (opc (ic (by decide)))) rfl)⟩, ⟨rfl, fun β => (GOk.plain (op_move (opt 0 rfl)) rfl)⟩, ⟨rfl, fun β => (GOk.on_eq hb11 rfl rfl rfl (op_fieldAddr_lbm (p := p1) (n := 1) 0 32 Tryd.underlying27 rfl Tryd.sizeOf3 (by decide) (opt 0 rfl) rfl))⟩, ⟨rfl, fun β => (GOk.on_eq hb11 rfl rfl rfl (op_load_lb1 [bytesCk 32 a_0.f_Seed] [one (slVP (dC 32) a_0.f_Leaves)] 1 Tryd.isAgg3 (opt 0 rfl) rfl rfl))⟩, ⟨rfl, fun β => (GOk.on_eq hb11 rfl rfl rfl (op_bin bin_geq (opt 0 rfl) (opc (ic (by decide)))))⟩, ⟨rfl, fun β => (GOk.plain (op_pick_f hb11 (opt 0 rfl) (opt 1 rfl)) rfl)⟩, trivial⟩
      clear h
      intro β a w h
      change SatL c [.slot 1 (eqVP p_1), .slot 3 (lpVP p1 0), .slot 5 (lpVP p2 0), .slot 6 (lpVP p3 0), .slot 7 (lpVP p4 0), .slot 18 (boolVP (decide ((16 : Int) ≤ a_0.f_Next))), .res (Log_e p_1 L_1), .res (lb p1 27 [bytesCk 32 a_0.f_Seed, one (intVP .i64 a_0.f_Next), one (slVP (dC 32) a_0.f_Leaves)]), .res (lb p2 23 [bytesCk 32 a_2]), .res (lb p3 27 [bytesCk 32 ((S_keys_Signer.mk (List.replicate 32 0) (0 : Int) []).f_Seed), one (intVP .i64 ((S_keys_Signer.mk (List.replicate 32 0) (0 : Int) []).f_Next)), one (slVP (dC 32) ((S_keys_Signer.mk (List.replicate 32 0) (0 : Int) []).f_Leaves))]), .res (lb p4 31 [one (intVP .i64 ((S_api_Sig.mk (0 : Int) [] [] []).f_Index)), one (slVP (dC 32) ((S_api_Sig.mk (0 : Int) [] [] []).f_Parts)), one (slVP (dC 32) ((S_api_Sig.mk (0 : Int) [] [] []).f_Others)), one (slVP (dC 32) ((S_api_Sig.mk (0 : Int) [] [] []).f_Path))])] a w at h
      clear β
      exact ⟨decide ((16 : Int) ≤ a_0.f_Next), hF, h.sub [0, 1, 2, 3, 4, 5, 6, 7, 8, 9, 10] (by rfl)⟩
  · clear h hF
    rintro a w ⟨x5, hF, h⟩
    unfold keys_Signer_Sign.j1 at hF
    show Code.wp Tryd.prog _ _ a w
    refine cond_L h 5 rfl (fun hb6 => ?_) (fun hb6 => ?_)
    · replace hF := tt_of hb6 hF
      replace h := h.sub [1, 3, 4, 6, 7, 9, 10] (by rfl)
      change SatL c [.slot 3 (lpVP p1 0), .slot 6 (lpVP p3 0), .slot 7 (lpVP p4 0), .res (Log_e p_1 L_1), .res (lb p1 27 [bytesCk 32 a_0.f_Seed, one (intVP .i64 a_0.f_Next), one (slVP (dC 32) a_0.f_Leaves)]), .res (lb p3 27 [bytesCk 32 ((S_keys_Signer.mk (List.replicate 32 0) (0 : Int) []).f_Seed), one (intVP .i64 ((S_keys_Signer.mk (List.replicate 32 0) (0 : Int) []).f_Next)), one (slVP (dC 32) ((S_keys_Signer.mk (List.replicate 32 0) (0 : Int) []).f_Leaves))]), .res (lb p4 31 [one (intVP .i64 ((S_api_Sig.mk (0 : Int) [] [] []).f_Index)), one (slVP (dC 32) ((S_api_Sig.mk (0 : Int) [] [] []).f_Parts)), one (slVP (dC 32) ((S_api_Sig.mk (0 : Int) [] [] []).f_Others)), one (slVP (dC 32) ((S_api_Sig.mk (0 : Int) [] [] []).f_Path))])] a w at h
      refine wp_seq ?_
      refine region_do (n := 45) [.slot 19 100000 100000 (fun _ _ => (aggVP [bytesCk 32 a_0.f_Seed, one (intVP .i64 a_0.f_Next), one (slVP (dC 32) a_0.f_Leaves)])),
      .slot 20 100000 100000 (fun _ _ => (aggVP [one (intVP .i64 (0 : Int)), one (slVP (dC 32) []), one (slVP (dC 32) []), one (slVP (dC 32) [])])),
      .res 100000 100000 (fun _ _ => (lb p3 27 [bytesCk 32 a_0.f_Seed, one (intVP .i64 a_0.f_Next), one (slVP (dC 32) a_0.f_Leaves)])),
      .res 100000 100000 (fun _ _ => (lb p4 31 [one (intVP .i64 (0 : Int)), one (slVP (dC 32) []), one (slVP (dC 32) []), one (slVP (dC 32) [])])),
      .slot 8 100000 100000 (fun _ _ => (intVP .i64 22))] [0, 1, 2, 3, 4] [⟨[0, 4], [], [7], [], some 19⟩, ⟨[], [], [8], [0], some 20⟩, ⟨[1, 7], [5], [9], [0, 1], none⟩, ⟨[2, 8], [6], [10], [0, 1, 2], none⟩, ⟨[], [], [11], [0, 1, 2, 3], some 8⟩] [1, 2, 11, 3, 9, 10] mixed hn hG h (by kernel_rfl) ?_ ?_
      · exact ⟨⟨rfl, fun β => (GOk.plain (op_load_lb [] [bytesCk 32 a_0.f_Seed, one (intVP .i64 a_0.f_Next), one (slVP (dC 32) a_0.f_Leaves)] [] 1 Tryd.isAgg27 Tryd.sizeOf27 (opt 0 rfl) rfl rfl rfl) rfl)⟩, ⟨rfl, fun β => (GOk.plain (op_build [] rfl bu31 z31 rfl) rfl)⟩, ⟨rfl, fun β => (GOk.plain (op_store_lb [] [bytesCk 32 ((S_keys_Signer.mk (List.replicate 32 0) (0 : Int) []).f_Seed), one (intVP .i64 ((S_keys_Signer.mk (List.replicate 32 0) (0 : Int) []).f_Next)), one (slVP (dC 32) ((S_keys_Signer.mk (List.replicate 32 0) (0 : Int) []).f_Leaves))] [] [bytesCk 32 a_0.f_Seed, one (intVP .i64 a_0.f_Next), one (slVP (dC 32) a_0.f_Leaves)] Tryd.sizeOf27 (opt 0 rfl) (opt 1 rfl) (cells_agg _) rfl rfl rfl) rfl)⟩, ⟨rfl, fun β => (GOk.plain (op_store_lb [] [one (intVP .i64 ((S_api_Sig.mk (0 : Int) [] [] []).f_Index)), one (slVP (dC 32) ((S_api_Sig.mk (0 : Int) [] [] []).f_Parts)), one (slVP (dC 32) ((S_api_Sig.mk (0 : Int) [] [] []).f_Others)), one (slVP (dC 32) ((S_api_Sig.mk (0 : Int) [] [] []).f_Path))] [] [one (intVP .i64 (0 : Int)), one (slVP (dC 32) []), one (slVP (dC 32) []), one (slVP (dC 32) [])] Tryd.sizeOf31 (opt 0 rfl) (opt 1 rfl) (cells_agg _) rfl rfl rfl) rfl)⟩, ⟨rfl, fun β => (GOk.plain (op_assign (opc (ic (by decide)))) rfl)⟩, trivial⟩
      clear h
      intro β a w h
      change SatL c [.slot 6 (lpVP p3 0), .slot 7 (lpVP p4 0), .slot 8 (intVP .i64 22), .res (Log_e p_1 L_1), .res (lb p3 27 [bytesCk 32 a_0.f_Seed, one (intVP .i64 a_0.f_Next), one (slVP (dC 32) a_0.f_Leaves)]), .res (lb p4 31 [one (intVP .i64 (0 : Int)), one (slVP (dC 32) []), one (slVP (dC 32) []), one (slVP (dC 32) [])])] a w at h
      clear β
      show Code.wp Tryd.prog _ _ a w
      refine wp_ret ?_
      obtain rfl := Option.some.inj hF
      exact ⟨.inl rfl, retn h (rs := [.cell 6 27, .cell 7 31, .tmp 8]) (Vs := [(aggVP [bytesCk 32 a_0.f_Seed, one (intVP .i64 a_0.f_Next), one (slVP (dC 32) a_0.f_Leaves)]), (aggVP [one (intVP .i64 (0 : Int)), one (slVP (dC 32) []), one (slVP (dC 32) []), one (slVP (dC 32) [])]), (intVP .i64 22)]) Tryd.results14 (by decide) ⟨(r_cell 0 4 rfl rfl Tryd.isAgg27 Tryd.sizeOf27 rfl), (r_cell 1 5 rfl rfl Tryd.isAgg31 Tryd.sizeOf31 rfl), (r_tmp 2 rfl), trivial⟩ [3] [(Log_e p_1 L_1)] rfl rfl rfl⟩
    · replace hF := ff_of hb6 hF
      replace h := h.sub [0, 1, 2, 3, 4, 6, 7, 8, 9, 10] (by rfl)
      change SatL c [.slot 1 (eqVP p_1), .slot 3 (lpVP p1 0), .slot 5 (lpVP p2 0), .slot 6 (lpVP p3 0), .slot 7 (lpVP p4 0), .res (Log_e p_1 L_1), .res (lb p1 27 [bytesCk 32 a_0.f_Seed, one (intVP .i64 a_0.f_Next), one (slVP (dC 32) a_0.f_Leaves)]), .res (lb p2 23 [bytesCk 32 a_2]), .res (lb p3 27 [bytesCk 32 ((S_keys_Signer.mk (List.replicate 32 0) (0 : Int) []).f_Seed), one (intVP .i64 ((S_keys_Signer.mk (List.replicate 32 0) (0 : Int) []).f_Next)), one (slVP (dC 32) ((S_keys_Signer.mk (List.replicate 32 0) (0 : Int) []).f_Leaves))]), .res (lb p4 31 [one (intVP .i64 ((S_api_Sig.mk (0 : Int) [] [] []).f_Index)), one (slVP (dC 32) ((S_api_Sig.mk (0 : Int) [] [] []).f_Parts)), one (slVP (dC 32) ((S_api_Sig.mk (0 : Int) [] [] []).f_Others)), one (slVP (dC 32) ((S_api_Sig.mk (0 : Int) [] [] []).f_Path))])] a w at h
      refine wp_skip ?_
      show Code.wp Tryd.prog _ _ a w
      refine wp_seq ?_
      obtain ⟨r7, hr7, hF⟩ := bind_some hF
      refine region_do (n := 45) [.slot 22 100000 100000 (fun _ _ => (aggVP [bytesCk 32 a_0.f_Seed, one (intVP .i64 a_0.f_Next), one (slVP (dC 32) a_0.f_Leaves)])),
      .slot 23 100000 100000 (fun _ _ => (eqVP p_1)),
      .slot 24 100000 100000 (fun _ _ => (lpVP p1 32)),
      .slot 25 100000 100000 (fun _ _ => (intVP .i64 a_0.f_Next)),
      .slot 26 100000 100000 (fun _ _ => (aggVP [bytesCk 32 a_2])),
      .slot 27 100000 100000 (fun _ _ => (tupVP [(aggVP [one (intVP .i64 r7.1.f_Index), one (slVP (dC 32) r7.1.f_Parts), one (slVP (dC 32) r7.1.f_Others), one (slVP (dC 32) r7.1.f_Path)]), (intVP .i64 r7.2.1)])),
      .res 100000 100000 (fun _ _ => (Log_e p_1 r7.2.2)),
      .slot 21 100000 100000 (fun _ _ => (tupVP [(aggVP [one (intVP .i64 r7.1.f_Index), one (slVP (dC 32) r7.1.f_Parts), one (slVP (dC 32) r7.1.f_Others), one (slVP (dC 32) r7.1.f_Path)]), (intVP .i64 r7.2.1)])),
      .slot 28 100000 100000 (fun _ _ => (aggVP [one (intVP .i64 r7.1.f_Index), one (slVP (dC 32) r7.1.f_Parts), one (slVP (dC 32) r7.1.f_Others), one (slVP (dC 32) r7.1.f_Path)])),
      .slot 29 100000 100000 (fun _ _ => (intVP .i64 r7.2.1)),
      .slot 9 9 100000 (fun v1_ _ => (lpVP v1_ 0)),
      .res 9 100000 (fun v1_ _ => (lb (v1_) 31 [one (intVP .i64 ((S_api_Sig.mk (0 : Int) [] [] []).f_Index)), one (slVP (dC 32) ((S_api_Sig.mk (0 : Int) [] [] []).f_Parts)), one (slVP (dC 32) ((S_api_Sig.mk (0 : Int) [] [] []).f_Others)), one (slVP (dC 32) ((S_api_Sig.mk (0 : Int) [] [] []).f_Path))])),
      .res 9 100000 (fun v1_ _ => (lb (v1_) 31 [one (intVP .i64 r7.1.f_Index), one (slVP (dC 32) r7.1.f_Parts), one (slVP (dC 32) r7.1.f_Others), one (slVP (dC 32) r7.1.f_Path)])),
      .slot 10 100000 100000 (fun _ _ => (intVP .i64 r7.2.1))] [0, 1, 2, 3, 4, 5, 5, 6, 7, 8, 9, 9, 10, 11] [⟨[1, 6], [], [10], [], some 22⟩, ⟨[0], [], [11], [0], some 23⟩, ⟨[1], [], [12], [0, 1], some 24⟩, ⟨[12, 6], [], [13], [0, 1, 2], some 25⟩, ⟨[2, 7], [], [14], [0, 1, 2, 3], some 26⟩, ⟨[10, 11, 13, 14], [5], [15, 16], [0, 1, 2, 3, 4], some 27⟩, ⟨[15], [], [17], [0, 1, 2, 3, 4, 5], some 21⟩, ⟨[17], [], [18], [0, 1, 2, 3, 4, 5, 6], some 28⟩, ⟨[17], [], [19], [0, 1, 2, 3, 4, 5, 6, 7], some 29⟩, ⟨[], [], [20, 21], [0, 1, 2, 3, 4, 5, 6, 7, 8], some 9⟩, ⟨[20, 18], [21], [22], [0, 1, 2, 3, 4, 5, 6, 7, 8, 9], none⟩, ⟨[19], [], [23], [0, 1, 2, 3, 4, 5, 6, 7, 8, 9, 10], some 10⟩] [1, 3, 4, 20, 23, 6, 8, 9, 16, 22] mixed hn hG h (by kernel_rfl) ?_ ?_
      · exact ⟨⟨rfl, fun β => (GOk.plain (op_load_lb [] [bytesCk 32 a_0.f_Seed, one (intVP .i64 a_0.f_Next), one (slVP (dC 32) a_0.f_Leaves)] [] 1 Tryd.isAgg27 Tryd.sizeOf27 (opt 0 rfl) rfl rfl rfl) rfl)⟩, ⟨rfl, fun β => (GOk.plain (op_move (opt 0 rfl)) rfl)⟩, ⟨rfl, fun β => (GOk.plain (op_fieldAddr_lbm (p := p1) (n := 1) 0 32 Tryd.underlying27 rfl Tryd.sizeOf3 (by decide) (opt 0 rfl) rfl) rfl)⟩, ⟨rfl, fun β => (GOk.plain (op_load_lb1 [bytesCk 32 a_0.f_Seed] [one (slVP (dC 32) a_0.f_Leaves)] 1 Tryd.isAgg3 (opt 0 rfl) rfl rfl) rfl)⟩, ⟨rfl, fun β => (GOk.plain (op_load_lb [] [bytesCk 32 a_2] [] 1 Tryd.isAgg23 Tryd.sizeOf23 (opt 0 rfl) rfl rfl rfl) rfl)⟩, ⟨rfl, fun β => (GOk.plain (op_call Tryd.call16 (keys_Signer_Again_ok hr7) ⟨(opt 0 rfl), (opt 1 rfl), (opt 2 rfl), (opt 3 rfl), trivial⟩) rfl)⟩, ⟨rfl, fun β => (GOk.plain (op_move (opt 0 rfl)) rfl)⟩, ⟨rfl, fun β => (GOk.plain (op_extract (opt 0 rfl) rfl) rfl)⟩, ⟨rfl, fun β => (GOk.plain (op_extract (opt 0 rfl) rfl) rfl)⟩, ⟨rfl, fun β => (GOk.plain (op_alloc Tryd.zeroValue31 z31) rfl)⟩, ⟨rfl, fun β => (GOk.plain (op_store_lb [] [one (intVP .i64 ((S_api_Sig.mk (0 : Int) [] [] []).f_Index)), one (slVP (dC 32) ((S_api_Sig.mk (0 : Int) [] [] []).f_Parts)), one (slVP (dC 32) ((S_api_Sig.mk (0 : Int) [] [] []).f_Others)), one (slVP (dC 32) ((S_api_Sig.mk (0 : Int) [] [] []).f_Path))] [] [one (intVP .i64 r7.1.f_Index), one (slVP (dC 32) r7.1.f_Parts), one (slVP (dC 32) r7.1.f_Others), one (slVP (dC 32) r7.1.f_Path)] Tryd.sizeOf31 (opt 0 rfl) (opt 1 rfl) (cells_agg _) rfl rfl rfl) rfl)⟩, ⟨rfl, fun β => (GOk.plain (op_assign (opt 0 rfl)) rfl)⟩, trivial⟩
      clear h
      intro β a w h
      change SatL c [.slot 3 (lpVP p1 0), .slot 6 (lpVP p3 0), .slot 7 (lpVP p4 0), .slot 9 (lpVP (β 9) 0), .slot 10 (intVP .i64 r7.2.1), .res (lb p1 27 [bytesCk 32 a_0.f_Seed, one (intVP .i64 a_0.f_Next), one (slVP (dC 32) a_0.f_Leaves)]), .res (lb p3 27 [bytesCk 32 ((S_keys_Signer.mk (List.replicate 32 0) (0 : Int) []).f_Seed), one (intVP .i64 ((S_keys_Signer.mk (List.replicate 32 0) (0 : Int) []).f_Next)), one (slVP (dC 32) ((S_keys_Signer.mk (List.replicate 32 0) (0 : Int) []).f_Leaves))]), .res (lb p4 31 [one (intVP .i64 ((S_api_Sig.mk (0 : Int) [] [] []).f_Index)), one (slVP (dC 32) ((S_api_Sig.mk (0 : Int) [] [] []).f_Parts)), one (slVP (dC 32) ((S_api_Sig.mk (0 : Int) [] [] []).f_Others)), one (slVP (dC 32) ((S_api_Sig.mk (0 : Int) [] [] []).f_Path))]), .res (Log_e p_1 r7.2.2), .res (lb (β 9) 31 [one (intVP .i64 r7.1.f_Index), one (slVP (dC 32) r7.1.f_Parts), one (slVP (dC 32) r7.1.f_Others), one (slVP (dC 32) r7.1.f_Path)])] a w at h
      generalize β 9 = p8 at h
      clear β
      show Code.wp Tryd.prog _ _ a w
      refine wp_seq ?_
      refine wp_seq ?_
      refine region_do (n := 45) [.slot 30 100000 100000 (fun _ _ => (intVP .i64 r7.2.1)),
      .slot 31 100000 100000 (fun _ _ => (boolVP (!decide (r7.2.1 = (0 : Int)))))] [0, 1] [⟨[4], [], [10], [], some 30⟩, ⟨[10], [], [11], [0], some 31⟩] [0, 1, 2, 3, 4, 11, 5, 6, 7, 8, 9] mixed hn hG h (by kernel_rfl) ?_ ?_
      · exact ⟨⟨rfl, fun β => (GOk.plain (op_move (opt 0 rfl)) rfl)⟩, ⟨rfl, fun β => (GOk.plain (op_bin bin_neq (opt 0 rfl) (opc (ic (by decide)))) rfl)⟩, trivial⟩
      clear h
      intro β a w h
      change SatL c [.slot 3 (lpVP p1 0), .slot 6 (lpVP p3 0), .slot 7 (lpVP p4 0), .slot 9 (lpVP p8 0), .slot 10 (intVP .i64 r7.2.1), .slot 31 (boolVP (!decide (r7.2.1 = (0 : Int)))), .res (lb p1 27 [bytesCk 32 a_0.f_Seed, one (intVP .i64 a_0.f_Next), one (slVP (dC 32) a_0.f_Leaves)]), .res (lb p3 27 [bytesCk 32 ((S_keys_Signer.mk (List.replicate 32 0) (0 : Int) []).f_Seed), one (intVP .i64 ((S_keys_Signer.mk (List.replicate 32 0) (0 : Int) []).f_Next)), one (slVP (dC 32) ((S_keys_Signer.mk (List.replicate 32 0) (0 : Int) []).f_Leaves))]), .res (lb p4 31 [one (intVP .i64 ((S_api_Sig.mk (0 : Int) [] [] []).f_Index)), one (slVP (dC 32) ((S_api_Sig.mk (0 : Int) [] [] []).f_Parts)), one (slVP (dC 32) ((S_api_Sig.mk (0 : Int) [] [] []).f_Others)), one (slVP (dC 32) ((S_api_Sig.mk (0 : Int) [] [] []).f_Path))]), .res (Log_e p_1 r7.2.2), .res (lb p8 31 [one (intVP .i64 r7.1.f_Index), one (slVP (dC 32) r7.1.f_Parts), one (slVP (dC 32) r7.1.f_Others), one (slVP (dC 32) r7.1.f_Path)])] a w at h
      clear β
      show Code.wp Tryd.prog _ _ a w
      refine cond_L h 5 rfl (fun hb9 => ?_) (fun hb9 => ?_)
      · replace hF := tt_of hb9 hF
        replace h := h.sub [0, 1, 2, 4, 6, 7, 8, 9] (by rfl)
        change SatL c [.slot 3 (lpVP p1 0), .slot 6 (lpVP p3 0), .slot 7 (lpVP p4 0), .slot 10 (intVP .i64 r7.2.1), .res (lb p1 27 [bytesCk 32 a_0.f_Seed, one (intVP .i64 a_0.f_Next), one (slVP (dC 32) a_0.f_Leaves)]), .res (lb p3 27 [bytesCk 32 ((S_keys_Signer.mk (List.replicate 32 0) (0 : Int) []).f_Seed), one (intVP .i64 ((S_keys_Signer.mk (List.replicate 32 0) (0 : Int) []).f_Next)), one (slVP (dC 32) ((S_keys_Signer.mk (List.replicate 32 0) (0 : Int) []).f_Leaves))]), .res (lb p4 31 [one (intVP .i64 ((S_api_Sig.mk (0 : Int) [] [] []).f_Index)), one (slVP (dC 32) ((S_api_Sig.mk (0 : Int) [] [] []).f_Parts)), one (slVP (dC 32) ((S_api_Sig.mk (0 : Int) [] [] []).f_Others)), one (slVP (dC 32) ((S_api_Sig.mk (0 : Int) [] [] []).f_Path))]), .res (Log_e p_1 r7.2.2)] a w at h
        refine wp_seq ?_
        refine region_do (n := 45) [.slot 32 100000 100000 (fun _ _ => (aggVP [bytesCk 32 a_0.f_Seed, one (intVP .i64 a_0.f_Next), one (slVP (dC 32) a_0.f_Leaves)])),
      .slot 33 100000 100000 (fun _ _ => (aggVP [one (intVP .i64 (0 : Int)), one (slVP (dC 32) []), one (slVP (dC 32) []), one (slVP (dC 32) [])])),
      .slot 34 100000 100000 (fun _ _ => (intVP .i64 r7.2.1)),
      .res 100000 100000 (fun _ _ => (lb p3 27 [bytesCk 32 a_0.f_Seed, one (intVP .i64 a_0.f_Next), one (slVP (dC 32) a_0.f_Leaves)])),
      .res 100000 100000 (fun _ _ => (lb p4 31 [one (intVP .i64 (0 : Int)), one (slVP (dC 32) []), one (slVP (dC 32) []), one (slVP (dC 32) [])])),
      .slot 8 100000 100000 (fun _ _ => (intVP .i64 r7.2.1))] [0, 1, 2, 3, 4, 5] [⟨[0, 4], [], [8], [], some 32⟩, ⟨[], [], [9], [0], some 33⟩, ⟨[3], [], [10], [0, 1], some 34⟩, ⟨[1, 8], [5], [11], [0, 1, 2], none⟩, ⟨[2, 9], [6], [12], [0, 1, 2, 3], none⟩, ⟨[10], [], [13], [0, 1, 2, 3, 4], some 8⟩] [1, 2, 13, 11, 12, 7] mixed hn hG h (by kernel_rfl) ?_ ?_
        · exact ⟨⟨rfl, fun β => (GOk.plain (op_load_lb [] [bytesCk 32 a_0.f_Seed, one (intVP .i64 a_0.f_Next), one (slVP (dC 32) a_0.f_Leaves)] [] 1 Tryd.isAgg27 Tryd.sizeOf27 (opt 0 rfl) rfl rfl rfl) rfl)⟩, ⟨rfl, fun β => (GOk.plain (op_build [] rfl bu31 z31 rfl) rfl)⟩, ⟨rfl, fun β => (GOk.plain (op_move (opt 0 rfl)) rfl)⟩, ⟨rfl, fun β => (GOk.plain (op_store_lb [] [bytesCk 32 ((S_keys_Signer.mk (List.replicate 32 0) (0 : Int) []).f_Seed), one (intVP .i64 ((S_keys_Signer.mk (List.replicate 32 0) (0 : Int) []).f_Next)), one (slVP (dC 32) ((S_keys_Signer.mk (List.replicate 32 0) (0 : Int) []).f_Leaves))] [] [bytesCk 32 a_0.f_Seed, one (intVP .i64 a_0.f_Next), one (slVP (dC 32) a_0.f_Leaves)] Tryd.sizeOf27 (opt 0 rfl) (opt 1 rfl) (cells_agg _) rfl rfl rfl) rfl)⟩, ⟨rfl, fun β => (GOk.plain (op_store_lb [] [one (intVP .i64 ((S_api_Sig.mk (0 : Int) [] [] []).f_Index)), one (slVP (dC 32) ((S_api_Sig.mk (0 : Int) [] [] []).f_Parts)), one (slVP (dC 32) ((S_api_Sig.mk (0 : Int) [] [] []).f_Others)), one (slVP (dC 32) ((S_api_Sig.mk (0 : Int) [] [] []).f_Path))] [] [one (intVP .i64 (0 : Int)), one (slVP (dC 32) []), one (slVP (dC 32) []), one (slVP (dC 32) [])] Tryd.sizeOf31 (opt 0 rfl) (opt 1 rfl) (cells_agg _) rfl rfl rfl) rfl)⟩, ⟨rfl, fun β => (GOk.plain (op_assign (opt 0 rfl)) rfl)⟩, trivial⟩
        clear h
        intro β a w h
        change SatL c [.slot 6 (lpVP p3 0), .slot 7 (lpVP p4 0), .slot 8 (intVP .i64 r7.2.1), .res (lb p3 27 [bytesCk 32 a_0.f_Seed, one (intVP .i64 a_0.f_Next), one (slVP (dC 32) a_0.f_Leaves)]), .res (lb p4 31 [one (intVP .i64 (0 : Int)), one (slVP (dC 32) []), one (slVP (dC 32) []), one (slVP (dC 32) [])]), .res (Log_e p_1 r7.2.2)] a w at h
        clear β
        show Code.wp Tryd.prog _ _ a w
        refine wp_ret ?_
        obtain rfl := Option.some.inj hF
        exact ⟨.inl rfl, retn h (rs := [.cell 6 27, .cell 7 31, .tmp 8]) (Vs := [(aggVP [bytesCk 32 a_0.f_Seed, one (intVP .i64 a_0.f_Next), one (slVP (dC 32) a_0.f_Leaves)]), (aggVP [one (intVP .i64 (0 : Int)), one (slVP (dC 32) []), one (slVP (dC 32) []), one (slVP (dC 32) [])]), (intVP .i64 r7.2.1)]) Tryd.results14 (by decide) ⟨(r_cell 0 3 rfl rfl Tryd.isAgg27 Tryd.sizeOf27 rfl), (r_cell 1 4 rfl rfl Tryd.isAgg31 Tryd.sizeOf31 rfl), (r_tmp 2 rfl), trivial⟩ [5] [(Log_e p_1 r7.2.2)] rfl rfl rfl⟩
      · replace hF := ff_of hb9 hF
        replace h := h.sub [0, 1, 2, 3, 6, 7, 8, 9, 10] (by rfl)
        change SatL c [.slot 3 (lpVP p1 0), .slot 6 (lpVP p3 0), .slot 7 (lpVP p4 0), .slot 9 (lpVP p8 0), .res (lb p1 27 [bytesCk 32 a_0.f_Seed, one (intVP .i64 a_0.f_Next), one (slVP (dC 32) a_0.f_Leaves)]), .res (lb p3 27 [bytesCk 32 ((S_keys_Signer.mk (List.replicate 32 0) (0 : Int) []).f_Seed), one (intVP .i64 ((S_keys_Signer.mk (List.replicate 32 0) (0 : Int) []).f_Next)), one (slVP (dC 32) ((S_keys_Signer.mk (List.replicate 32 0) (0 : Int) []).f_Leaves))]), .res (lb p4 31 [one (intVP .i64 ((S_api_Sig.mk (0 : Int) [] [] []).f_Index)), one (slVP (dC 32) ((S_api_Sig.mk (0 : Int) [] [] []).f_Parts)), one (slVP (dC 32) ((S_api_Sig.mk (0 : Int) [] [] []).f_Others)), one (slVP (dC 32) ((S_api_Sig.mk (0 : Int) [] [] []).f_Path))]), .res (Log_e p_1 r7.2.2), .res (lb p8 31 [one (intVP .i64 r7.1.f_Index), one (slVP (dC 32) r7.1.f_Parts), one (slVP (dC 32) r7.1.f_Others), one (slVP (dC 32) r7.1.f_Path)])] a w at h
        refine wp_skip ?_
        show Code.wp Tryd.prog _ _ a w
        refine wp_seq ?_
        refine region_do (n := 45) [.slot 35 100000 100000 (fun _ _ => (lpVP p1 32)),
      .slot 36 100000 100000 (fun _ _ => (intVP .i64 a_0.f_Next)),
      .slot 37 100000 100000 (fun _ _ => (intVP .i64 (IntKind.wrap .i64 (a_0.f_Next + 1)))),
      .slot 38 100000 100000 (fun _ _ => (lpVP p1 32)),
      .res 100000 100000 (fun _ _ => (lb p1 27 [bytesCk 32 a_0.f_Seed, one (intVP .i64 (IntKind.wrap .i64 (a_0.f_Next + 1))), one (slVP (dC 32) a_0.f_Leaves)]))] [0, 1, 2, 3, 4] [⟨[0], [], [9], [], some 35⟩, ⟨[9, 4], [], [10], [0], some 36⟩, ⟨[10], [], [11], [0, 1], some 37⟩, ⟨[0], [], [12], [0, 1, 2], some 38⟩, ⟨[12, 11], [4], [13], [0, 1, 2, 3], none⟩] [0, 1, 2, 3, 13, 5, 6, 7, 8] mixed hn hG h (by kernel_rfl) ?_ ?_
        · exact ⟨⟨rfl, fun β => (GOk.plain (op_fieldAddr_lbm (p := p1) (n := 1) 0 32 Tryd.underlying27 rfl Tryd.sizeOf3 (by decide) (opt 0 rfl) rfl) rfl)⟩, ⟨rfl, fun β => (GOk.plain (op_load_lb1 [bytesCk 32 a_0.f_Seed] [one (slVP (dC 32) a_0.f_Leaves)] 1 Tryd.isAgg3 (opt 0 rfl) rfl rfl) rfl)⟩, ⟨rfl, fun β => (GOk.plain (op_bin bin_add (opt 0 rfl) (opc (ic (by decide)))) rfl)⟩, ⟨rfl, fun β => (GOk.plain (op_fieldAddr_lbm (p := p1) (n := 1) 0 32 Tryd.underlying27 rfl Tryd.sizeOf3 (by decide) (opt 0 rfl) rfl) rfl)⟩, ⟨rfl, fun β => (GOk.plain (op_store_lb [bytesCk 32 a_0.f_Seed] [one (intVP .i64 a_0.f_Next)] [one (slVP (dC 32) a_0.f_Leaves)] [one (intVP .i64 (IntKind.wrap .i64 (a_0.f_Next + 1)))] Tryd.sizeOf3 (opt 0 rfl) (opt 1 rfl) (cells_one (one_int _ _)) rfl rfl rfl) rfl)⟩, trivial⟩
        clear h
        intro β a w h
        change SatL c [.slot 3 (lpVP p1 0), .slot 6 (lpVP p3 0), .slot 7 (lpVP p4 0), .slot 9 (lpVP p8 0), .res (lb p1 27 [bytesCk 32 a_0.f_Seed, one (intVP .i64 (IntKind.wrap .i64 (a_0.f_Next + 1))), one (slVP (dC 32) a_0.f_Leaves)]), .res (lb p3 27 [bytesCk 32 ((S_keys_Signer.mk (List.replicate 32 0) (0 : Int) []).f_Seed), one (intVP .i64 ((S_keys_Signer.mk (List.replicate 32 0) (0 : Int) []).f_Next)), one (slVP (dC 32) ((S_keys_Signer.mk (List.replicate 32 0) (0 : Int) []).f_Leaves))]), .res (lb p4 31 [one (intVP .i64 ((S_api_Sig.mk (0 : Int) [] [] []).f_Index)), one (slVP (dC 32) ((S_api_Sig.mk (0 : Int) [] [] []).f_Parts)), one (slVP (dC 32) ((S_api_Sig.mk (0 : Int) [] [] []).f_Others)), one (slVP (dC 32) ((S_api_Sig.mk (0 : Int) [] [] []).f_Path))]), .res (Log_e p_1 r7.2.2), .res (lb p8 31 [one (intVP .i64 r7.1.f_Index), one (slVP (dC 32) r7.1.f_Parts), one (slVP (dC 32) r7.1.f_Others), one (slVP (dC 32) r7.1.f_Path)])] a w at h
        clear β
        show Code.wp Tryd.prog _ _ a w
        refine wp_seq ?_
        obtain ⟨r10, hr10, hF⟩ := bind_some hF
        refine region_do (n := 45) [.slot 39 100000 100000 (fun _ _ => (lpVP p1 33)),
      .slot 40 100000 100000 (fun _ _ => (slVP (dC 32) a_0.f_Leaves)),
      .slot 41 100000 100000 (fun _ _ => (slVP (dC 32) r10)),
      .slot 42 100000 100000 (fun _ _ => (lpVP p1 33)),
      .res 100000 100000 (fun _ _ => (lb p1 27 [bytesCk 32 a_0.f_Seed, one (intVP .i64 (IntKind.wrap .i64 (a_0.f_Next + 1))), one (slVP (dC 32) r10)]))] [0, 1, 2, 3, 4] [⟨[0], [], [9], [], some 39⟩, ⟨[9, 4], [], [10], [0], some 40⟩, ⟨[10], [], [11], [0, 1], some 41⟩, ⟨[0], [], [12], [0, 1, 2], some 42⟩, ⟨[12, 11], [4], [13], [0, 1, 2, 3], none⟩] [0, 1, 2, 3, 13, 5, 6, 7, 8] mixed hn hG h (by kernel_rfl) ?_ ?_
        · exact ⟨⟨rfl, fun β => (GOk.plain (op_fieldAddr_lbm (p := p1) (n := 1) 0 33 Tryd.underlying27 rfl Tryd.sizeOf24 (by decide) (opt 0 rfl) rfl) rfl)⟩, ⟨rfl, fun β => (GOk.plain (op_load_lb1 [bytesCk 32 a_0.f_Seed, one (intVP .i64 (IntKind.wrap .i64 (a_0.f_Next + 1)))] [] 1 Tryd.isAgg24 (opt 0 rfl) rfl rfl) rfl)⟩, ⟨rfl, fun β => (GOk.plain (op_call Tryd.call50 (slices_Clone_api_Digest_ok hr10) ⟨(opt 0 rfl), trivial⟩) rfl)⟩, ⟨rfl, fun β => (GOk.plain (op_fieldAddr_lbm (p := p1) (n := 1) 0 33 Tryd.underlying27 rfl Tryd.sizeOf24 (by decide) (opt 0 rfl) rfl) rfl)⟩, ⟨rfl, fun β => (GOk.plain (op_store_lb [bytesCk 32 a_0.f_Seed, one (intVP .i64 (IntKind.wrap .i64 (a_0.f_Next + 1)))] [one (slVP (dC 32) a_0.f_Leaves)] [] [one (slVP (dC 32) r10)] Tryd.sizeOf24 (opt 0 rfl) (opt 1 rfl) (cells_one (one_sl _ _)) rfl rfl rfl) rfl)⟩, trivial⟩
        clear h
        intro β a w h
        change SatL c [.slot 3 (lpVP p1 0), .slot 6 (lpVP p3 0), .slot 7 (lpVP p4 0), .slot 9 (lpVP p8 0), .res (lb p1 27 [bytesCk 32 a_0.f_Seed, one (intVP .i64 (IntKind.wrap .i64 (a_0.f_Next + 1))), one (slVP (dC 32) r10)]), .res (lb p3 27 [bytesCk 32 ((S_keys_Signer.mk (List.replicate 32 0) (0 : Int) []).f_Seed), one (intVP .i64 ((S_keys_Signer.mk (List.replicate 32 0) (0 : Int) []).f_Next)), one (slVP (dC 32) ((S_keys_Signer.mk (List.replicate 32 0) (0 : Int) []).f_Leaves))]), .res (lb p4 31 [one (intVP .i64 ((S_api_Sig.mk (0 : Int) [] [] []).f_Index)), one (slVP (dC 32) ((S_api_Sig.mk (0 : Int) [] [] []).f_Parts)), one (slVP (dC 32) ((S_api_Sig.mk (0 : Int) [] [] []).f_Others)), one (slVP (dC 32) ((S_api_Sig.mk (0 : Int) [] [] []).f_Path))]), .res (Log_e p_1 r7.2.2), .res (lb p8 31 [one (intVP .i64 r7.1.f_Index), one (slVP (dC 32) r7.1.f_Parts), one (slVP (dC 32) r7.1.f_Others), one (slVP (dC 32) r7.1.f_Path)])] a w at h
        clear β
        show Code.wp Tryd.prog _ _ a w
        refine wp_seq ?_
        refine region_do (n := 45) [.slot 43 100000 100000 (fun _ _ => (aggVP [bytesCk 32 a_0.f_Seed, one (intVP .i64 (IntKind.wrap .i64 (a_0.f_Next + 1))), one (slVP (dC 32) r10)])),
      .slot 44 100000 100000 (fun _ _ => (aggVP [one (intVP .i64 r7.1.f_Index), one (slVP (dC 32) r7.1.f_Parts), one (slVP (dC 32) r7.1.f_Others), one (slVP (dC 32) r7.1.f_Path)])),
      .res 100000 100000 (fun _ _ => (lb p3 27 [bytesCk 32 a_0.f_Seed, one (intVP .i64 (IntKind.wrap .i64 (a_0.f_Next + 1))), one (slVP (dC 32) r10)])),
      .res 100000 100000 (fun _ _ => (lb p4 31 [one (intVP .i64 r7.1.f_Index), one (slVP (dC 32) r7.1.f_Parts), one (slVP (dC 32) r7.1.f_Others), one (slVP (dC 32) r7.1.f_Path)])),
      .slot 8 100000 100000 (fun _ _ => (intVP .i64 0))] [0, 1, 2, 3, 4] [⟨[0, 4], [], [9], [], some 43⟩, ⟨[3, 8], [], [10], [], some 44⟩, ⟨[1, 9], [5], [11], [0], none⟩, ⟨[2, 10], [6], [12], [0, 1, 2], none⟩, ⟨[], [], [13], [0, 1, 2, 3], some 8⟩] [1, 2, 13, 11, 12, 7] mixed hn hG h (by kernel_rfl) ?_ ?_
        · exact ⟨⟨rfl, fun β => (GOk.plain (op_load_lb [] [bytesCk 32 a_0.f_Seed, one (intVP .i64 (IntKind.wrap .i64 (a_0.f_Next + 1))), one (slVP (dC 32) r10)] [] 1 Tryd.isAgg27 Tryd.sizeOf27 (opt 0 rfl) rfl rfl rfl) rfl)⟩, ⟨rfl, fun β => (GOk.plain (op_load_lb [] [one (intVP .i64 r7.1.f_Index), one (slVP (dC 32) r7.1.f_Parts), one (slVP (dC 32) r7.1.f_Others), one (slVP (dC 32) r7.1.f_Path)] [] 1 Tryd.isAgg31 Tryd.sizeOf31 (opt 0 rfl) rfl rfl rfl) rfl)⟩, ⟨rfl, fun β => (GOk.plain (op_store_lb [] [bytesCk 32 ((S_keys_Signer.mk (List.replicate 32 0) (0 : Int) []).f_Seed), one (intVP .i64 ((S_keys_Signer.mk (List.replicate 32 0) (0 : Int) []).f_Next)), one (slVP (dC 32) ((S_keys_Signer.mk (List.replicate 32 0) (0 : Int) []).f_Leaves))] [] [bytesCk 32 a_0.f_Seed, one (intVP .i64 (IntKind.wrap .i64 (a_0.f_Next + 1))), one (slVP (dC 32) r10)] Tryd.sizeOf27 (opt 0 rfl) (opt 1 rfl) (cells_agg _) rfl rfl rfl) rfl)⟩, ⟨rfl, fun β => (GOk.plain (op_store_lb [] [one (intVP .i64 ((S_api_Sig.mk (0 : Int) [] [] []).f_Index)), one (slVP (dC 32) ((S_api_Sig.mk (0 : Int) [] [] []).f_Parts)), one (slVP (dC 32) ((S_api_Sig.mk (0 : Int) [] [] []).f_Others)), one (slVP (dC 32) ((S_api_Sig.mk (0 : Int) [] [] []).f_Path))] [] [one (intVP .i64 r7.1.f_Index), one (slVP (dC 32) r7.1.f_Parts), one (slVP (dC 32) r7.1.f_Others), one (slVP (dC 32) r7.1.f_Path)] Tryd.sizeOf31 (opt 0 rfl) (opt 1 rfl) (cells_agg _) rfl rfl rfl) rfl)⟩, ⟨rfl, fun β => (GOk.plain (op_assign (opc (ic (by decide)))) rfl)⟩, trivial⟩
        clear h
        intro β a w h
        change SatL c [.slot 6 (lpVP p3 0), .slot 7 (lpVP p4 0), .slot 8 (intVP .i64 0), .res (lb p3 27 [bytesCk 32 a_0.f_Seed, one (intVP .i64 (IntKind.wrap .i64 (a_0.f_Next + 1))), one (slVP (dC 32) r10)]), .res (lb p4 31 [one (intVP .i64 r7.1.f_Index), one (slVP (dC 32) r7.1.f_Parts), one (slVP (dC 32) r7.1.f_Others), one (slVP (dC 32) r7.1.f_Path)]), .res (Log_e p_1 r7.2.2)] a w at h
        clear β
        show Code.wp Tryd.prog _ _ a w
        refine wp_ret ?_
        obtain rfl := Option.some.inj hF
        exact ⟨.inl rfl, retn h (rs := [.cell 6 27, .cell 7 31, .tmp 8]) (Vs := [(aggVP [bytesCk 32 a_0.f_Seed, one (intVP .i64 (IntKind.wrap .i64 (a_0.f_Next + 1))), one (slVP (dC 32) r10)]), (aggVP [one (intVP .i64 r7.1.f_Index), one (slVP (dC 32) r7.1.f_Parts), one (slVP (dC 32) r7.1.f_Others), one (slVP (dC 32) r7.1.f_Path)]), (intVP .i64 0)]) Tryd.results14 (by decide) ⟨(r_cell 0 3 rfl rfl Tryd.isAgg27 Tryd.sizeOf27 rfl), (r_cell 1 4 rfl rfl Tryd.isAgg31 Tryd.sizeOf31 rfl), (r_tmp 2 rfl), trivial⟩ [5] [(Log_e p_1 r7.2.2)] rfl rfl rfl⟩
end Go.Proofs.YtamnmljgcmbliaaDoor
