/- The functions' Lean twins and contracts, printed by this session's own program: part 3. -/
import Derived.Test.YtbhehllkimedaaaDoorG2
namespace Go.Proofs.YtbhehllkimedaaaDoor
open Go Go.RowKit Go.Proofs
set_option maxRecDepth 100000
set_option linter.unusedVariables false
def digest_Log_note.n (a_1 : List UInt8) (a_2 : List UInt8) : Option (Option O_Log) := some none
def digest_Log_note.j2 (x6 : List ((List UInt8) × (List UInt8))) (x7 : List ((List UInt8) × Bool)) : Option (Option O_Log) := some (some ⟨x6, x7⟩)
def digest_Log_note.j1 (s_0 : O_Log) (a_1 : List UInt8) (a_2 : List UInt8) (x5 : Bool) : Option (Option O_Log) := (if x5 = true then digest_Log_note.j2 s_0.f_inputs (upd a_2 true s_0.f_others) else digest_Log_note.j2 (upd a_1 a_2 s_0.f_inputs) s_0.f_others)
def digest_Log_note.s (s_0 : O_Log) (a_1 : List UInt8) (a_2 : List UInt8) : Option (Option O_Log) := (if ((lkp a_1 s_0.f_inputs).isSome) = true then digest_Log_note.j1 s_0 a_1 a_2 (!decide (((lkp a_1 s_0.f_inputs).getD []) = a_2)) else digest_Log_note.j1 s_0 a_1 a_2 false)
def digest_Log_note (L_0 : Option O_Log) (a_1 : List UInt8) (a_2 : List UInt8) : Option (Option O_Log) := match L_0 with | none => digest_Log_note.n a_1 a_2 | some s_0 => digest_Log_note.s s_0 a_1 a_2
theorem digest_Log_note_ok {p_0 : Value} {L_0 : Option O_Log} {a_1 : List UInt8} {a_2 : List UInt8} {r : (Option O_Log)} (hF : digest_Log_note L_0 a_1 a_2 = some r) : CallOk Tryd.prog KG 40 [(eqVP p_0), (aggVP [bytesCk 32 a_1]), (strVP a_2)] [(Log_e p_0 L_0)] (fun _ => [Log_e p_0 r]) (tupVP []) := by
  refine CallOk.intro 36 Tryd.func40 rfl Tryd.ntmps40 (Nat.le_of_ble_eq_true rfl) ?_
  intro c a w hG hn h
  unfold digest_Log_note at hF
  change SatL c [.slot 0 (eqVP p_0), .slot 1 (aggVP [bytesCk 32 a_1]), .slot 2 (strVP a_2), .res (Log_e p_0 L_0)] a w at h
  obtain ⟨h_0_0, h⟩ := h.ex 3 rfl
  obtain ⟨h_0_1, h⟩ := h.ex 3 rfl
  change SatL c [.slot 0 (eqVP p_0), .slot 1 (aggVP [bytesCk 32 a_1]), .slot 2 (strVP a_2), .res (Log_o p_0 h_0_0 h_0_1 L_0)] a w at h
  cases L_0 with
  | none =>
    change digest_Log_note.n a_1 a_2 = some r at hF
    unfold digest_Log_note.n at hF
    obtain rfl := h.isp 3 rfl (fun _ _ _ q => q.2)
    replace h := h.slotc 0 rfl (V' := ptrVP (.pointer none) false) (fun _ _ h => ⟨h, rfl⟩)
    change SatL c [.slot 0 (ptrVP (.pointer none) false), .slot 1 (aggVP [bytesCk 32 a_1]), .slot 2 (strVP a_2), .res (Log_o (.pointer none) h_0_0 h_0_1 none)] a w at h
    refine wp_seq ?_
    refine region_do (n := 36) [.slot 4 0 100000 (fun v1_ _ => (lpVP v1_ 0)),
      .res 0 100000 (fun v1_ _ => (lb (v1_) 24 [bytesCk 32 a_1]))] [0, 0] [⟨[1], [], [4, 5], [], some 4⟩] [0, 2, 4, 3, 5] mixed hn hG h (by kernel_rfl) ?_ ?_
    · exact ⟨⟨rfl, fun β => (GOk.plain (op_box (opt 0 rfl) (cells_agg _)) rfl)⟩, trivial⟩
    clear h
    intro β a w h
    change SatL c [.slot 0 (ptrVP (.pointer none) false), .slot 2 (strVP a_2), .slot 4 (lpVP (β 0) 0), .res (Log_o (.pointer none) h_0_0 h_0_1 none), .res (lb (β 0) 24 [bytesCk 32 a_1])] a w at h
    generalize β 0 = p1 at h
    clear β
    show Code.wp Tryd.prog _ _ a w
    refine wp_seq ?_
    refine wp_seq ?_
    refine region_do (n := 36) [.slot 8 100000 100000 (fun _ _ => (ptrVP (.pointer none) false)),
      .slot 9 100000 100000 (fun _ _ => (boolVP true))] [0, 1] [⟨[0], [], [5], [], some 8⟩, ⟨[5], [], [6], [0], some 9⟩] [0, 1, 2, 6, 3, 4] mixed hn hG h (by kernel_rfl) ?_ ?_
    · exact ⟨⟨rfl, fun β => (GOk.plain (op_move (opt 0 rfl)) rfl)⟩, ⟨rfl, fun β => (GOk.plain (op_bin (bin_pnil Tryd.underlying30) (opt 0 rfl) (opc (ec _))) rfl)⟩, trivial⟩
    clear h
    intro β a w h
    change SatL c [.slot 0 (ptrVP (.pointer none) false), .slot 2 (strVP a_2), .slot 4 (lpVP p1 0), .slot 9 (boolVP true), .res (Log_o (.pointer none) h_0_0 h_0_1 none), .res (lb p1 24 [bytesCk 32 a_1])] a w at h
    clear β
    show Code.wp Tryd.prog _ _ a w
    refine cond_L h 3 rfl (fun hb2 => ?_) (fun hb2 => ?_)
    · skip
      replace h := h.sub [4] (by rfl)
      change SatL c [.res (Log_o (.pointer none) h_0_0 h_0_1 none)] a w at h
      refine wp_ret ?_
      replace h := h.conv 0 rfl Log_packo
      change SatL c [.res (Log_e (.pointer none) none)] a w at h
      obtain rfl := Option.some.inj hF
      exact ⟨.inl rfl, retn h (rs := []) (Vs := []) Tryd.results40 (by decide) trivial [0] [(Log_e (.pointer none) none)] rfl rfl rfl⟩
    · cases hb2
  | some s_0 =>
    change digest_Log_note.s s_0 a_1 a_2 = some r at hF
    unfold digest_Log_note.s at hF
    have hp := h.isp 3 rfl (fun Φ f w q => Log_lp Φ f w q)
    replace h := h.slotc 0 rfl (V' := lpVP p_0 0) (fun _ _ h => eq_lp h hp)
    replace h := h.sep (R := lb p_0 71 [one (eqVP h_0_0), one (eqVP h_0_1)]) (S := (RP.sep (mapR h_0_0 arrK (fun l => l.length = 32) (fun u y => RP.val (strVP y) u) s_0.f_inputs) (mapR h_0_1 strK (fun _ => True) (fun u y => RP.val (boolVP y) u) s_0.f_others))) 3 rfl
    replace h := h.sep (R := mapR h_0_0 arrK (fun l => l.length = 32) (fun u y => RP.val (strVP y) u) s_0.f_inputs) (S := (mapR h_0_1 strK (fun _ => True) (fun u y => RP.val (boolVP y) u) s_0.f_others)) 4 rfl
    replace h := h.sub [0, 1, 2, 3, 4, 5] (by rfl)
    change SatL c [.slot 0 (lpVP p_0 0), .slot 1 (aggVP [bytesCk 32 a_1]), .slot 2 (strVP a_2), .res (lb p_0 71 [one (eqVP h_0_0), one (eqVP h_0_1)]), .res (mapR h_0_0 arrK (fun l => l.length = 32) (fun u y => RP.val (strVP y) u) s_0.f_inputs), .res (mapR h_0_1 strK (fun _ => True) (fun u y => RP.val (boolVP y) u) s_0.f_others)] a w at h
    refine wp_seq ?_
    refine region_do (n := 36) [.slot 4 0 100000 (fun v1_ _ => (lpVP v1_ 0)),
      .res 0 100000 (fun v1_ _ => (lb (v1_) 24 [bytesCk 32 a_1]))] [0, 0] [⟨[1], [], [6, 7], [], some 4⟩] [0, 2, 6, 3, 4, 5, 7] mixed hn hG h (by kernel_rfl) ?_ ?_
    · exact ⟨⟨rfl, fun β => (GOk.plain (op_box (opt 0 rfl) (cells_agg _)) rfl)⟩, trivial⟩
    clear h
    intro β a w h
    change SatL c [.slot 0 (lpVP p_0 0), .slot 2 (strVP a_2), .slot 4 (lpVP (β 0) 0), .res (lb p_0 71 [one (eqVP h_0_0), one (eqVP h_0_1)]), .res (mapR h_0_0 arrK (fun l => l.length = 32) (fun u y => RP.val (strVP y) u) s_0.f_inputs), .res (mapR h_0_1 strK (fun _ => True) (fun u y => RP.val (boolVP y) u) s_0.f_others), .res (lb (β 0) 24 [bytesCk 32 a_1])] a w at h
    generalize β 0 = p3 at h
    clear β
    show Code.wp Tryd.prog _ _ a w
    refine wp_seq ?_
    refine wp_seq ?_
    refine region_do (n := 36) [.slot 8 100000 100000 (fun _ _ => (lpVP p_0 0)),
      .slot 9 100000 100000 (fun _ _ => (boolVP false))] [0, 1] [⟨[0], [], [7], [], some 8⟩, ⟨[7], [], [8], [0], some 9⟩] [0, 1, 2, 8, 3, 4, 5, 6] mixed hn hG h (by kernel_rfl) ?_ ?_
    · exact ⟨⟨rfl, fun β => (GOk.plain (op_move (opt 0 rfl)) rfl)⟩, ⟨rfl, fun β => (GOk.plain (op_bin (bin_pnil Tryd.underlying30) (lp_ptr (opt 0 rfl)) (opc (ec _))) rfl)⟩, trivial⟩
    clear h
    intro β a w h
    change SatL c [.slot 0 (lpVP p_0 0), .slot 2 (strVP a_2), .slot 4 (lpVP p3 0), .slot 9 (boolVP false), .res (lb p_0 71 [one (eqVP h_0_0), one (eqVP h_0_1)]), .res (mapR h_0_0 arrK (fun l => l.length = 32) (fun u y => RP.val (strVP y) u) s_0.f_inputs), .res (mapR h_0_1 strK (fun _ => True) (fun u y => RP.val (boolVP y) u) s_0.f_others), .res (lb p3 24 [bytesCk 32 a_1])] a w at h
    clear β
    show Code.wp Tryd.prog _ _ a w
    refine cond_L h 3 rfl (fun hb4 => ?_) (fun hb4 => ?_)
    · cases hb4
    · skip
      replace h := h.sub [0, 1, 2, 4, 5, 6, 7] (by rfl)
      change SatL c [.slot 0 (lpVP p_0 0), .slot 2 (strVP a_2), .slot 4 (lpVP p3 0), .res (lb p_0 71 [one (eqVP h_0_0), one (eqVP h_0_1)]), .res (mapR h_0_0 arrK (fun l => l.length = 32) (fun u y => RP.val (strVP y) u) s_0.f_inputs), .res (mapR h_0_1 strK (fun _ => True) (fun u y => RP.val (boolVP y) u) s_0.f_others), .res (lb p3 24 [bytesCk 32 a_1])] a w at h
      refine wp_skip ?_
      show Code.wp Tryd.prog _ _ a w
      refine wp_seq ?_
      refine region_do (n := 36) [.slot 11 100000 100000 (fun _ _ => (lpVP p_0 0)),
      .slot 12 100000 100000 (fun _ _ => (lpVP p_0 0)),
      .slot 13 100000 100000 (fun _ _ => (lpVP p_0 0)),
      .slot 14 100000 100000 (fun _ _ => (eqVP h_0_0)),
      .slot 15 100000 100000 (fun _ _ => (aggVP [bytesCk 32 a_1])),
      .slot 16 100000 100000 (fun _ _ => (tupVP [(strVP ((lkp a_1 s_0.f_inputs).getD [])), (boolVP ((lkp a_1 s_0.f_inputs).isSome))])),
      .slot 10 100000 100000 (fun _ _ => (tupVP [(strVP ((lkp a_1 s_0.f_inputs).getD [])), (boolVP ((lkp a_1 s_0.f_inputs).isSome))])),
      .slot 17 100000 100000 (fun _ _ => (strVP ((lkp a_1 s_0.f_inputs).getD []))),
      .slot 18 100000 100000 (fun _ _ => (boolVP ((lkp a_1 s_0.f_inputs).isSome))),
      .slot 6 100000 100000 (fun _ _ => (strVP ((lkp a_1 s_0.f_inputs).getD []))),
      .slot 7 100000 100000 (fun _ _ => (boolVP ((lkp a_1 s_0.f_inputs).isSome)))] [0, 1, 2, 3, 4, 5, 6, 7, 8, 9, 10] [⟨[0], [], [7], [], some 11⟩, ⟨[7], [], [8], [0], some 12⟩, ⟨[8], [], [9], [0, 1], some 13⟩, ⟨[9, 3], [], [10], [0, 1, 2], some 14⟩, ⟨[2, 6], [], [11], [], some 15⟩, ⟨[10, 11, 4], [], [12], [0, 1, 2, 3, 4], some 16⟩, ⟨[12], [], [13], [0, 1, 2, 3, 4, 5], some 10⟩, ⟨[13], [], [14], [0, 1, 2, 3, 4, 5, 6], some 17⟩, ⟨[13], [], [15], [0, 1, 2, 3, 4, 5, 6], some 18⟩, ⟨[14], [], [16], [0, 1, 2, 3, 4, 5, 6, 7], some 6⟩, ⟨[15], [], [17], [0, 1, 2, 3, 4, 5, 6, 7, 8, 9], some 7⟩] [0, 1, 2, 16, 17, 3, 4, 5, 6] mixed hn hG h (by kernel_rfl) ?_ ?_
      · exact ⟨⟨rfl, fun β => (GOk.plain (op_move (opt 0 rfl)) rfl)⟩, ⟨rfl, fun β => (GOk.plain (op_nilCheck (opt 0 rfl) (ptr_lp _ _)) rfl)⟩, ⟨rfl, fun β => (GOk.plain (op_fieldAddr_lbm (p := p_0) (n := 1) 0 0 Tryd.underlying71 rfl Tryd.sizeOf68 (by decide) (opt 0 rfl) rfl) rfl)⟩, ⟨rfl, fun β => (GOk.plain (op_load_lb1 [] [one (eqVP h_0_1)] 1 Tryd.isAgg68 (opt 0 rfl) rfl rfl) rfl)⟩, ⟨rfl, fun β => (GOk.plain (op_load_lb [] [bytesCk 32 a_1] [] 1 Tryd.isAgg24 Tryd.sizeOf24 (opt 0 rfl) rfl rfl rfl) rfl)⟩, ⟨rfl, fun β => (GOk.plain (op_lookup strVP [] 2 Tryd.underlying68 (keyArr Tryd.underlying24 Tryd.underlying5 Tryd.type5 Tryd.sizeOf5 Tryd.isAgg5) Tryd.zeroValue9 (opt 0 rfl) (opt 1 rfl) hk_arr rfl res_id (fun _ _ _ _ _ h => h.2) (fun _ => ⟨rfl, by decide⟩)) rfl)⟩, ⟨rfl, fun β => (GOk.plain (op_move (opt 0 rfl)) rfl)⟩, ⟨rfl, fun β => (GOk.plain (op_extract (opt 0 rfl) rfl) rfl)⟩, ⟨rfl, fun β => (GOk.plain (op_extract (opt 0 rfl) rfl) rfl)⟩, ⟨rfl, fun β => (GOk.plain (op_assign (opt 0 rfl)) rfl)⟩, ⟨rfl, fun β => (GOk.plain (op_assign (opt 0 rfl)) rfl)⟩, trivial⟩
      clear h
      intro β a w h
      change SatL c [.slot 0 (lpVP p_0 0), .slot 2 (strVP a_2), .slot 4 (lpVP p3 0), .slot 6 (strVP ((lkp a_1 s_0.f_inputs).getD [])), .slot 7 (boolVP ((lkp a_1 s_0.f_inputs).isSome)), .res (lb p_0 71 [one (eqVP h_0_0), one (eqVP h_0_1)]), .res (mapR h_0_0 arrK (fun l => l.length = 32) (fun u y => RP.val (strVP y) u) s_0.f_inputs), .res (mapR h_0_1 strK (fun _ => True) (fun u y => RP.val (boolVP y) u) s_0.f_others), .res (lb p3 24 [bytesCk 32 a_1])] a w at h
      clear β
      show Code.wp Tryd.prog _ _ a w
      refine wp_seq ?_
      refine wp_cut (fun a w => ∃ (x5 : Bool), digest_Log_note.j1 s_0 a_1 a_2 x5 = some r ∧ SatL c [.slot 0 (lpVP p_0 0), .slot 2 (strVP a_2), .slot 4 (lpVP p3 0), .slot 24 (boolVP x5), .res (lb p_0 71 [one (eqVP h_0_0), one (eqVP h_0_1)]), .res (mapR h_0_0 arrK (fun l => l.length = 32) (fun u y => RP.val (strVP y) u) s_0.f_inputs), .res (mapR h_0_1 strK (fun _ => True) (fun u y => RP.val (boolVP y) u) s_0.f_others), .res (lb p3 24 [bytesCk 32 a_1])] a w) ?_ ?_
      · rcases Bool.eq_false_or_eq_true ((lkp a_1 s_0.f_inputs).isSome) with hb9 | hb9
        · replace hF := tt_of hb9 hF
          refine region_do (n := 36) [.slot 19 100000 100000 (fun _ _ => (boolVP ((lkp a_1 s_0.f_inputs).isSome))),
      .slot 20 100000 100000 (fun _ _ => (boolVP ((lkp a_1 s_0.f_inputs).isSome))),
      .slot 21 100000 100000 (fun _ _ => (strVP ((lkp a_1 s_0.f_inputs).getD []))),
      .slot 22 100000 100000 (fun _ _ => (strVP a_2)),
      .slot 23 100000 100000 (fun _ _ => (boolVP (!decide (((lkp a_1 s_0.f_inputs).getD []) = a_2)))),
      .slot 24 100000 100000 (fun _ _ => (boolVP (!decide (((lkp a_1 s_0.f_inputs).getD []) = a_2))))] [0, 1, 2, 3, 4, 5] [⟨[4], [], [9], [], some 19⟩, ⟨[9], [], [10], [0], some 20⟩, ⟨[10, 3], [], [11], [0, 1], some 21⟩, ⟨[10, 1], [], [12], [0, 1, 2], some 22⟩, ⟨[10, 11, 12], [], [13], [0, 1, 2, 3], some 23⟩, ⟨[10, 13], [], [14], [0, 1, 2, 3, 4], some 24⟩] [0, 1, 2, 14, 5, 6, 7, 8] mixed hn hG h (by kernel_rfl) ?_ ?_
          · exact ⟨⟨rfl, fun β => (GOk.plain (op_move (opt 0 rfl)) rfl)⟩, ⟨rfl, fun β => (GOk.plain (op_move (opt 0 rfl)) rfl)⟩, ⟨rfl, fun β => (GOk.on_eq hb9 rfl rfl rfl (op_move (opt 0 rfl)))⟩, ⟨rfl, fun β => (GOk.on_eq hb9 rfl rfl rfl (op_move (opt 0 rfl)))⟩, ⟨rfl, fun β => (GOk.on_eq hb9 rfl rfl rfl (op_bin bin_sneq (opt 0 rfl) (opt 1 rfl)))⟩, ⟨rfl, fun β => (GOk.plain (op_pick_t hb9 (opt 0 rfl) (opt 1 rfl)) rfl)⟩, trivial⟩
          clear h
          intro β a w h
          change SatL c [.slot 0 (lpVP p_0 0), .slot 2 (strVP a_2), .slot 4 (lpVP p3 0), .slot 24 (boolVP (!decide (((lkp a_1 s_0.f_inputs).getD []) = a_2))), .res (lb p_0 71 [one (eqVP h_0_0), one (eqVP h_0_1)]), .res (mapR h_0_0 arrK (fun l => l.length = 32) (fun u y => RP.val (strVP y) u) s_0.f_inputs), .res (mapR h_0_1 strK (fun _ => True) (fun u y => RP.val (boolVP y) u) s_0.f_others), .res (lb p3 24 [bytesCk 32 a_1])] a w at h
          clear β
          exact ⟨!decide (((lkp a_1 s_0.f_inputs).getD []) = a_2), hF, h.sub [0, 1, 2, 3, 4, 5, 6, 7] (by rfl)⟩
        · replace hF := ff_of hb9 hF
          refine region_do (n := 36) [.slot 19 100000 100000 (fun _ _ => (boolVP ((lkp a_1 s_0.f_inputs).isSome))),
      .slot 20 100000 100000 (fun _ _ => (boolVP ((lkp a_1 s_0.f_inputs).isSome))),
      .slot 21 100000 100000 (fun _ _ => (eqVP undef)),
      .slot 22 100000 100000 (fun _ _ => (eqVP undef)),
      .slot 23 100000 100000 (fun _ _ => (eqVP undef)),
      .slot 24 100000 100000 (fun _ _ => (boolVP false))] [0, 1, 2, 3, 4, 5] [⟨[4], [], [9], [], some 19⟩, ⟨[9], [], [10], [0], some 20⟩, ⟨[10], [], [11], [0, 1], some 21⟩, ⟨[10], [], [12], [0, 1, 2], some 22⟩, ⟨[10], [], [13], [0, 1, 2, 3], some 23⟩, ⟨[10], [], [14], [0, 1, 2, 3, 4], some 24⟩] [0, 1, 2, 14, 5, 6, 7, 8] mixed hn hG h (by kernel_rfl) ?_ ?_
          · exact ⟨⟨rfl, fun β => (GOk.plain (op_move (opt 0 rfl)) rfl)⟩, ⟨rfl, fun β => (GOk.plain (op_move (opt 0 rfl)) rfl)⟩, ⟨rfl, fun β => (GOk.off_v (want := true) hb9 rfl rfl rfl rfl)⟩, ⟨rfl, fun β => (GOk.off_v (want := true) hb9 rfl rfl rfl rfl)⟩, ⟨rfl, fun β => (GOk.off_v (want := true) hb9 rfl rfl rfl rfl)⟩, ⟨rfl, fun β => (GOk.plain (op_pick_f hb9 (opt 0 rfl) (opc (bc _))) rfl)⟩, trivial⟩
          clear h
          intro β a w h
          change SatL c [.slot 0 (lpVP p_0 0), .slot 2 (strVP a_2), .slot 4 (lpVP p3 0), .slot 24 (boolVP false), .res (lb p_0 71 [one (eqVP h_0_0), one (eqVP h_0_1)]), .res (mapR h_0_0 arrK (fun l => l.length = 32) (fun u y => RP.val (strVP y) u) s_0.f_inputs), .res (mapR h_0_1 strK (fun _ => True) (fun u y => RP.val (boolVP y) u) s_0.f_others), .res (lb p3 24 [bytesCk 32 a_1])] a w at h
          clear β
          exact ⟨false, hF, h.sub [0, 1, 2, 3, 4, 5, 6, 7] (by rfl)⟩
      · clear h hF
        rintro a w ⟨x5, hF, h⟩
        unfold digest_Log_note.j1 at hF
        show Code.wp Tryd.prog _ _ a w
        refine wp_cut (fun a w => ∃ (x6 : List ((List UInt8) × (List UInt8))), ∃ (x7 : List ((List UInt8) × Bool)), digest_Log_note.j2 x6 x7 = some r ∧ SatL c [.res (lb p_0 71 [one (eqVP h_0_0), one (eqVP h_0_1)]), .res (mapR h_0_0 arrK (fun l => l.length = 32) (fun u y => RP.val (strVP y) u) x6), .res (mapR h_0_1 strK (fun _ => True) (fun u y => RP.val (boolVP y) u) x7)] a w) ?_ ?_
        · refine cond_L h 3 rfl (fun hb8 => ?_) (fun hb8 => ?_)
          · replace hF := tt_of hb8 hF
            replace h := h.sub [0, 1, 4, 5, 6] (by rfl)
            change SatL c [.slot 0 (lpVP p_0 0), .slot 2 (strVP a_2), .res (lb p_0 71 [one (eqVP h_0_0), one (eqVP h_0_1)]), .res (mapR h_0_0 arrK (fun l => l.length = 32) (fun u y => RP.val (strVP y) u) s_0.f_inputs), .res (mapR h_0_1 strK (fun _ => True) (fun u y => RP.val (boolVP y) u) s_0.f_others)] a w at h
            refine region_do (n := 36) [.slot 25 100000 100000 (fun _ _ => (lpVP p_0 0)),
      .slot 26 100000 100000 (fun _ _ => (lpVP p_0 0)),
      .slot 27 100000 100000 (fun _ _ => (lpVP p_0 1)),
      .slot 28 100000 100000 (fun _ _ => (eqVP h_0_1)),
      .slot 29 100000 100000 (fun _ _ => (strVP a_2)),
      .res 100000 100000 (fun _ _ => (mapR h_0_1 strK (fun _ => True) (fun u y => RP.val (boolVP y) u) (upd a_2 true s_0.f_others)))] [0, 1, 2, 3, 4, 5] [⟨[0], [], [5], [], some 25⟩, ⟨[5], [], [6], [0], some 26⟩, ⟨[6], [], [7], [0, 1], some 27⟩, ⟨[7, 2], [], [8], [0, 1, 2], some 28⟩, ⟨[1], [], [9], [0, 1, 2, 3], some 29⟩, ⟨[8, 9], [4], [10], [0, 1, 2, 3, 4], none⟩] [2, 3, 10] mixed hn hG h (by kernel_rfl) ?_ ?_
            · exact ⟨⟨rfl, fun β => (GOk.plain (op_move (opt 0 rfl)) rfl)⟩, ⟨rfl, fun β => (GOk.plain (op_nilCheck (opt 0 rfl) (ptr_lp _ _)) rfl)⟩, ⟨rfl, fun β => (GOk.plain (op_fieldAddr_lbm (p := p_0) (n := 1) 0 1 Tryd.underlying71 rfl Tryd.sizeOf69 (by decide) (opt 0 rfl) rfl) rfl)⟩, ⟨rfl, fun β => (GOk.plain (op_load_lb1 [one (eqVP h_0_0)] [] 1 Tryd.isAgg69 (opt 0 rfl) rfl rfl) rfl)⟩, ⟨rfl, fun β => (GOk.plain (op_move (opt 0 rfl)) rfl)⟩, ⟨rfl, fun β => (GOk.plain (op_mapUpdate Tryd.underlying69 (keyStr Tryd.underlying9) (opt 0 rfl) (opt 1 rfl) hk_str (opc (bc _))) rfl)⟩, trivial⟩
            clear h
            intro β a w h
            change SatL c [.res (lb p_0 71 [one (eqVP h_0_0), one (eqVP h_0_1)]), .res (mapR h_0_0 arrK (fun l => l.length = 32) (fun u y => RP.val (strVP y) u) s_0.f_inputs), .res (mapR h_0_1 strK (fun _ => True) (fun u y => RP.val (boolVP y) u) (upd a_2 true s_0.f_others))] a w at h
            clear β
            exact ⟨s_0.f_inputs, upd a_2 true s_0.f_others, hF, h.sub [0, 1, 2] (by rfl)⟩
          · replace hF := ff_of hb8 hF
            replace h := h.sub [0, 1, 2, 4, 5, 6, 7] (by rfl)
            change SatL c [.slot 0 (lpVP p_0 0), .slot 2 (strVP a_2), .slot 4 (lpVP p3 0), .res (lb p_0 71 [one (eqVP h_0_0), one (eqVP h_0_1)]), .res (mapR h_0_0 arrK (fun l => l.length = 32) (fun u y => RP.val (strVP y) u) s_0.f_inputs), .res (mapR h_0_1 strK (fun _ => True) (fun u y => RP.val (boolVP y) u) s_0.f_others), .res (lb p3 24 [bytesCk 32 a_1])] a w at h
            refine region_do (n := 36) [.slot 30 100000 100000 (fun _ _ => (lpVP p_0 0)),
      .slot 31 100000 100000 (fun _ _ => (lpVP p_0 0)),
      .slot 32 100000 100000 (fun _ _ => (lpVP p_0 0)),
      .slot 33 100000 100000 (fun _ _ => (eqVP h_0_0)),
      .slot 34 100000 100000 (fun _ _ => (aggVP [bytesCk 32 a_1])),
      .slot 35 100000 100000 (fun _ _ => (strVP a_2)),
      .res 100000 100000 (fun _ _ => (mapR h_0_0 arrK (fun l => l.length = 32) (fun u y => RP.val (strVP y) u) (upd a_1 a_2 s_0.f_inputs)))] [0, 1, 2, 3, 4, 5, 6] [⟨[0], [], [7], [], some 30⟩, ⟨[7], [], [8], [0], some 31⟩, ⟨[8], [], [9], [0, 1], some 32⟩, ⟨[9, 3], [], [10], [0, 1, 2], some 33⟩, ⟨[2, 6], [], [11], [], some 34⟩, ⟨[1], [], [12], [], some 35⟩, ⟨[10, 11, 12], [4], [13], [0, 1, 2, 3, 4, 5], none⟩] [3, 13, 5] mixed hn hG h (by kernel_rfl) ?_ ?_
            · exact ⟨⟨rfl, fun β => (GOk.plain (op_move (opt 0 rfl)) rfl)⟩, ⟨rfl, fun β => (GOk.plain (op_nilCheck (opt 0 rfl) (ptr_lp _ _)) rfl)⟩, ⟨rfl, fun β => (GOk.plain (op_fieldAddr_lbm (p := p_0) (n := 1) 0 0 Tryd.underlying71 rfl Tryd.sizeOf68 (by decide) (opt 0 rfl) rfl) rfl)⟩, ⟨rfl, fun β => (GOk.plain (op_load_lb1 [] [one (eqVP h_0_1)] 1 Tryd.isAgg68 (opt 0 rfl) rfl rfl) rfl)⟩, ⟨rfl, fun β => (GOk.plain (op_load_lb [] [bytesCk 32 a_1] [] 1 Tryd.isAgg24 Tryd.sizeOf24 (opt 0 rfl) rfl rfl rfl) rfl)⟩, ⟨rfl, fun β => (GOk.plain (op_move (opt 0 rfl)) rfl)⟩, ⟨rfl, fun β => (GOk.plain (op_mapUpdate Tryd.underlying68 (keyArr Tryd.underlying24 Tryd.underlying5 Tryd.type5 Tryd.sizeOf5 Tryd.isAgg5) (opt 0 rfl) (opt 1 rfl) hk_arr (opt 2 rfl)) rfl)⟩, trivial⟩
            clear h
            intro β a w h
            change SatL c [.res (lb p_0 71 [one (eqVP h_0_0), one (eqVP h_0_1)]), .res (mapR h_0_0 arrK (fun l => l.length = 32) (fun u y => RP.val (strVP y) u) (upd a_1 a_2 s_0.f_inputs)), .res (mapR h_0_1 strK (fun _ => True) (fun u y => RP.val (boolVP y) u) s_0.f_others)] a w at h
            clear β
            exact ⟨upd a_1 a_2 s_0.f_inputs, s_0.f_others, hF, h.sub [0, 1, 2] (by rfl)⟩
        · clear h hF
          rintro a w ⟨x6, x7, hF, h⟩
          unfold digest_Log_note.j2 at hF
          replace h := h.unsep 1 2 rfl rfl (by decide)
          replace h := h.unsep 0 1 rfl rfl (by decide)
          replace h := h.conv 0 rfl (R' := Log_e p_0 (some ⟨x6, x7⟩)) (Log_packo (v0 := h_0_0) (v1 := h_0_1) (o := (some ⟨x6, x7⟩)))
          replace h := h.sub [0] (by rfl)
          change SatL c [.res (Log_e p_0 (some ⟨x6, x7⟩))] a w at h
          obtain rfl := Option.some.inj hF
          exact ⟨.inr rfl, retn h (rs := []) (Vs := []) Tryd.results40 (by decide) trivial [0] [(Log_e p_0 (some ⟨x6, x7⟩))] rfl rfl rfl⟩

def digest_Log_Count.n : Option Int := some 0
def digest_Log_Count.s (s_0 : O_Log) : Option Int := (if s_0.f_inputs.length ≤ mxl then (if s_0.f_others.length ≤ mxl then some (IntKind.wrap .i64 ((s_0.f_inputs.length : Int) + (s_0.f_others.length : Int))) else none) else none)
def digest_Log_Count (L_0 : Option O_Log) : Option Int := match L_0 with | none => digest_Log_Count.n | some s_0 => digest_Log_Count.s s_0
theorem digest_Log_Count_ok {p_0 : Value} {h_0_0 : Value} {h_0_1 : Value} {L_0 : Option O_Log} {r : Int} (hF : digest_Log_Count L_0 = some r) : CallOk Tryd.prog KG 15 [(eqVP p_0)] [(Log_o p_0 h_0_0 h_0_1 L_0)] (fun _ => [(Log_o p_0 h_0_0 h_0_1 L_0)]) (intVP .i64 r) := by
  refine CallOk.intro 16 Tryd.func15 rfl Tryd.ntmps15 (Nat.le_of_ble_eq_true rfl) ?_
  intro c a w hG hn h
  unfold digest_Log_Count at hF
  change SatL c [.slot 0 (eqVP p_0), .res (Log_o p_0 h_0_0 h_0_1 L_0)] a w at h
  cases L_0 with
  | none =>
    change digest_Log_Count.n = some r at hF
    unfold digest_Log_Count.n at hF
    obtain rfl := h.isp 1 rfl (fun _ _ _ q => q.2)
    replace h := h.slotc 0 rfl (V' := ptrVP (.pointer none) false) (fun _ _ h => ⟨h, rfl⟩)
    change SatL c [.slot 0 (ptrVP (.pointer none) false), .res (Log_o (.pointer none) h_0_0 h_0_1 none)] a w at h
    refine wp_seq ?_
    refine region_do (n := 16) [.slot 2 100000 100000 (fun _ _ => (intVP .i64 0))] [0] [⟨[], [], [2], [], some 2⟩] [0, 1] mixed hn hG h (by kernel_rfl) ?_ ?_
    · exact ⟨⟨rfl, fun β => (GOk.plain (op_assign (opc (ic (by decide)))) rfl)⟩, trivial⟩
    clear h
    intro β a w h
    change SatL c [.slot 0 (ptrVP (.pointer none) false), .res (Log_o (.pointer none) h_0_0 h_0_1 none)] a w at h
    clear β
    show Code.wp Tryd.prog _ _ a w
    refine wp_seq ?_
    refine wp_seq ?_
    refine region_do (n := 16) [.slot 3 100000 100000 (fun _ _ => (ptrVP (.pointer none) false)),
      .slot 4 100000 100000 (fun _ _ => (boolVP true))] [0, 1] [⟨[0], [], [2], [], some 3⟩, ⟨[2], [], [3], [0], some 4⟩] [0, 3, 1] mixed hn hG h (by kernel_rfl) ?_ ?_
    · exact ⟨⟨rfl, fun β => (GOk.plain (op_move (opt 0 rfl)) rfl)⟩, ⟨rfl, fun β => (GOk.plain (op_bin (bin_pnil Tryd.underlying30) (opt 0 rfl) (opc (ec _))) rfl)⟩, trivial⟩
    clear h
    intro β a w h
    change SatL c [.slot 0 (ptrVP (.pointer none) false), .slot 4 (boolVP true), .res (Log_o (.pointer none) h_0_0 h_0_1 none)] a w at h
    clear β
    show Code.wp Tryd.prog _ _ a w
    refine cond_L h 1 rfl (fun hb1 => ?_) (fun hb1 => ?_)
    · skip
      replace h := h.sub [2] (by rfl)
      change SatL c [.res (Log_o (.pointer none) h_0_0 h_0_1 none)] a w at h
      refine wp_seq ?_
      refine region_do (n := 16) [.slot 2 100000 100000 (fun _ _ => (intVP .i64 0))] [0] [⟨[], [], [1], [], some 2⟩] [1, 0] mixed hn hG h (by kernel_rfl) ?_ ?_
      · exact ⟨⟨rfl, fun β => (GOk.plain (op_assign (opc (ic (by decide)))) rfl)⟩, trivial⟩
      clear h
      intro β a w h
      change SatL c [.slot 2 (intVP .i64 0), .res (Log_o (.pointer none) h_0_0 h_0_1 none)] a w at h
      clear β
      show Code.wp Tryd.prog _ _ a w
      refine wp_ret ?_
      obtain rfl := Option.some.inj hF
      exact ⟨.inl rfl, ret1 h Tryd.results15 (r_tmp 0 rfl) [1] [(Log_o (.pointer none) h_0_0 h_0_1 none)] rfl rfl rfl⟩
    · cases hb1
  | some s_0 =>
    change digest_Log_Count.s s_0 = some r at hF
    unfold digest_Log_Count.s at hF
    have hp := h.isp 1 rfl (fun Φ f w q => Log_lp Φ f w q)
    replace h := h.slotc 0 rfl (V' := lpVP p_0 0) (fun _ _ h => eq_lp h hp)
    replace h := h.sep (R := lb p_0 71 [one (eqVP h_0_0), one (eqVP h_0_1)]) (S := (RP.sep (mapR h_0_0 arrK (fun l => l.length = 32) (fun u y => RP.val (strVP y) u) s_0.f_inputs) (mapR h_0_1 strK (fun _ => True) (fun u y => RP.val (boolVP y) u) s_0.f_others))) 1 rfl
    replace h := h.sep (R := mapR h_0_0 arrK (fun l => l.length = 32) (fun u y => RP.val (strVP y) u) s_0.f_inputs) (S := (mapR h_0_1 strK (fun _ => True) (fun u y => RP.val (boolVP y) u) s_0.f_others)) 2 rfl
    replace h := h.sub [0, 1, 2, 3] (by rfl)
    change SatL c [.slot 0 (lpVP p_0 0), .res (lb p_0 71 [one (eqVP h_0_0), one (eqVP h_0_1)]), .res (mapR h_0_0 arrK (fun l => l.length = 32) (fun u y => RP.val (strVP y) u) s_0.f_inputs), .res (mapR h_0_1 strK (fun _ => True) (fun u y => RP.val (boolVP y) u) s_0.f_others)] a w at h
    refine wp_seq ?_
    refine region_do (n := 16) [.slot 2 100000 100000 (fun _ _ => (intVP .i64 0))] [0] [⟨[], [], [4], [], some 2⟩] [0, 1, 2, 3] mixed hn hG h (by kernel_rfl) ?_ ?_
    · exact ⟨⟨rfl, fun β => (GOk.plain (op_assign (opc (ic (by decide)))) rfl)⟩, trivial⟩
    clear h
    intro β a w h
    change SatL c [.slot 0 (lpVP p_0 0), .res (lb p_0 71 [one (eqVP h_0_0), one (eqVP h_0_1)]), .res (mapR h_0_0 arrK (fun l => l.length = 32) (fun u y => RP.val (strVP y) u) s_0.f_inputs), .res (mapR h_0_1 strK (fun _ => True) (fun u y => RP.val (boolVP y) u) s_0.f_others)] a w at h
    clear β
    show Code.wp Tryd.prog _ _ a w
    refine wp_seq ?_
    refine wp_seq ?_
    refine region_do (n := 16) [.slot 3 100000 100000 (fun _ _ => (lpVP p_0 0)),
      .slot 4 100000 100000 (fun _ _ => (boolVP false))] [0, 1] [⟨[0], [], [4], [], some 3⟩, ⟨[4], [], [5], [0], some 4⟩] [0, 5, 1, 2, 3] mixed hn hG h (by kernel_rfl) ?_ ?_
    · exact ⟨⟨rfl, fun β => (GOk.plain (op_move (opt 0 rfl)) rfl)⟩, ⟨rfl, fun β => (GOk.plain (op_bin (bin_pnil Tryd.underlying30) (lp_ptr (opt 0 rfl)) (opc (ec _))) rfl)⟩, trivial⟩
    clear h
    intro β a w h
    change SatL c [.slot 0 (lpVP p_0 0), .slot 4 (boolVP false), .res (lb p_0 71 [one (eqVP h_0_0), one (eqVP h_0_1)]), .res (mapR h_0_0 arrK (fun l => l.length = 32) (fun u y => RP.val (strVP y) u) s_0.f_inputs), .res (mapR h_0_1 strK (fun _ => True) (fun u y => RP.val (boolVP y) u) s_0.f_others)] a w at h
    clear β
    show Code.wp Tryd.prog _ _ a w
    refine cond_L h 1 rfl (fun hb2 => ?_) (fun hb2 => ?_)
    · cases hb2
    · skip
      replace h := h.sub [0, 2, 3, 4] (by rfl)
      change SatL c [.slot 0 (lpVP p_0 0), .res (lb p_0 71 [one (eqVP h_0_0), one (eqVP h_0_1)]), .res (mapR h_0_0 arrK (fun l => l.length = 32) (fun u y => RP.val (strVP y) u) s_0.f_inputs), .res (mapR h_0_1 strK (fun _ => True) (fun u y => RP.val (boolVP y) u) s_0.f_others)] a w at h
      refine wp_skip ?_
      show Code.wp Tryd.prog _ _ a w
      refine wp_seq ?_
      obtain ⟨hv3, hF⟩ := ite_some hF
      obtain ⟨hv4, hF⟩ := ite_some hF
      refine region_do (n := 16) [.slot 5 100000 100000 (fun _ _ => (lpVP p_0 0)),
      .slot 6 100000 100000 (fun _ _ => (lpVP p_0 0)),
      .slot 7 100000 100000 (fun _ _ => (lpVP p_0 0)),
      .slot 8 100000 100000 (fun _ _ => (eqVP h_0_0)),
      .slot 9 100000 100000 (fun _ _ => (intVP .i64 (s_0.f_inputs.length : Int))),
      .slot 10 100000 100000 (fun _ _ => (lpVP p_0 0)),
      .slot 11 100000 100000 (fun _ _ => (lpVP p_0 0)),
      .slot 12 100000 100000 (fun _ _ => (lpVP p_0 1)),
      .slot 13 100000 100000 (fun _ _ => (eqVP h_0_1)),
      .slot 14 100000 100000 (fun _ _ => (intVP .i64 (s_0.f_others.length : Int))),
      .slot 15 100000 100000 (fun _ _ => (intVP .i64 (IntKind.wrap .i64 ((s_0.f_inputs.length : Int) + (s_0.f_others.length : Int))))),
      .slot 2 100000 100000 (fun _ _ => (intVP .i64 (IntKind.wrap .i64 ((s_0.f_inputs.length : Int) + (s_0.f_others.length : Int)))))] [0, 1, 2, 3, 4, 5, 6, 7, 8, 9, 10, 11] [⟨[0], [], [4], [], some 5⟩, ⟨[4], [], [5], [0], some 6⟩, ⟨[5], [], [6], [0, 1], some 7⟩, ⟨[6, 1], [], [7], [0, 1, 2], some 8⟩, ⟨[7, 2], [], [8], [0, 1, 2, 3], some 9⟩, ⟨[0], [], [9], [], some 10⟩, ⟨[9], [], [10], [5], some 11⟩, ⟨[10], [], [11], [5, 6], some 12⟩, ⟨[11, 1], [], [12], [5, 6, 7], some 13⟩, ⟨[12, 3], [], [13], [0, 1, 2, 3, 4, 5, 6, 7, 8], some 14⟩, ⟨[8, 13], [], [14], [0, 1, 2, 3, 4, 5, 6, 7, 8, 9], some 15⟩, ⟨[14], [], [15], [0, 1, 2, 3, 4, 5, 6, 7, 8, 9, 10], some 2⟩] [15, 1, 2, 3] mixed hn hG h (by kernel_rfl) ?_ ?_
      · exact ⟨⟨rfl, fun β => (GOk.plain (op_move (opt 0 rfl)) rfl)⟩, ⟨rfl, fun β => (GOk.plain (op_nilCheck (opt 0 rfl) (ptr_lp _ _)) rfl)⟩, ⟨rfl, fun β => (GOk.plain (op_fieldAddr_lbm (p := p_0) (n := 1) 0 0 Tryd.underlying71 rfl Tryd.sizeOf68 (by decide) (opt 0 rfl) rfl) rfl)⟩, ⟨rfl, fun β => (GOk.plain (op_load_lb1 [] [one (eqVP h_0_1)] 1 Tryd.isAgg68 (opt 0 rfl) rfl rfl) rfl)⟩, ⟨rfl, fun β => (GOk.plain (op_len_map 1 Tryd.underlying68 (opt 0 rfl) rfl res_id hv3) rfl)⟩, ⟨rfl, fun β => (GOk.plain (op_move (opt 0 rfl)) rfl)⟩, ⟨rfl, fun β => (GOk.plain (op_nilCheck (opt 0 rfl) (ptr_lp _ _)) rfl)⟩, ⟨rfl, fun β => (GOk.plain (op_fieldAddr_lbm (p := p_0) (n := 1) 0 1 Tryd.underlying71 rfl Tryd.sizeOf69 (by decide) (opt 0 rfl) rfl) rfl)⟩, ⟨rfl, fun β => (GOk.plain (op_load_lb1 [one (eqVP h_0_0)] [] 1 Tryd.isAgg69 (opt 0 rfl) rfl rfl) rfl)⟩, ⟨rfl, fun β => (GOk.plain (op_len_map 1 Tryd.underlying69 (opt 0 rfl) rfl res_id hv4) rfl)⟩, ⟨rfl, fun β => (GOk.plain (op_bin bin_add (opt 0 rfl) (opt 1 rfl)) rfl)⟩, ⟨rfl, fun β => (GOk.plain (op_assign (opt 0 rfl)) rfl)⟩, trivial⟩
      clear h
      intro β a w h
      change SatL c [.slot 2 (intVP .i64 (IntKind.wrap .i64 ((s_0.f_inputs.length : Int) + (s_0.f_others.length : Int)))), .res (lb p_0 71 [one (eqVP h_0_0), one (eqVP h_0_1)]), .res (mapR h_0_0 arrK (fun l => l.length = 32) (fun u y => RP.val (strVP y) u) s_0.f_inputs), .res (mapR h_0_1 strK (fun _ => True) (fun u y => RP.val (boolVP y) u) s_0.f_others)] a w at h
      clear β
      show Code.wp Tryd.prog _ _ a w
      refine wp_ret ?_
      replace h := h.unsep 2 3 rfl rfl (by decide)
      replace h := h.unsep 1 2 rfl rfl (by decide)
      replace h := h.sub [0, 1] (by rfl)
      change SatL c [.slot 2 (intVP .i64 (IntKind.wrap .i64 ((s_0.f_inputs.length : Int) + (s_0.f_others.length : Int)))), .res (Log_o p_0 h_0_0 h_0_1 (some s_0))] a w at h
      obtain rfl := Option.some.inj hF
      exact ⟨.inl rfl, ret1 h Tryd.results15 (r_tmp 0 rfl) [1] [(Log_o p_0 h_0_0 h_0_1 (some s_0))] rfl rfl rfl⟩
theorem digest_Log_Count_oke {p_0 : Value} {L_0 : Option O_Log} {r : Int} (hF : digest_Log_Count L_0 = some r) : CallOk Tryd.prog KG 15 [(eqVP p_0)] [Log_e p_0 L_0] (fun _ => [Log_e p_0 L_0]) (intVP .i64 r) := CallOk.ex fun h_0_0 => CallOk.ex fun h_0_1 => digest_Log_Count_ok hF
theorem digest_Log_Count_oku {p_0 : Value} {h_0_0 : Value} {h_0_1 : Value} {s_0 : O_Log} {r : Int} (hF : digest_Log_Count (some s_0) = some r) : CallOk Tryd.prog KG 15 [(eqVP p_0)] [lb p_0 71 [one (eqVP h_0_0), one (eqVP h_0_1)], mapR h_0_0 arrK (fun l => l.length = 32) (fun u y => RP.val (strVP y) u) s_0.f_inputs, mapR h_0_1 strK (fun _ => True) (fun u y => RP.val (boolVP y) u) s_0.f_others] (fun _ => [lb p_0 71 [one (eqVP h_0_0), one (eqVP h_0_1)], mapR h_0_0 arrK (fun l => l.length = 32) (fun u y => RP.val (strVP y) u) s_0.f_inputs, mapR h_0_1 strK (fun _ => True) (fun u y => RP.val (boolVP y) u) s_0.f_others]) (intVP .i64 r) := CallOk.split2 (digest_Log_Count_ok hF)

def digest_Log_Clash.n : Option Bool := some false
def digest_Log_Clash.s (s_0 : O_Log) : Option Bool := (if s_0.f_others.length ≤ mxl then some (decide ((0 : Int) < (s_0.f_others.length : Int))) else none)
def digest_Log_Clash (L_0 : Option O_Log) : Option Bool := match L_0 with | none => digest_Log_Clash.n | some s_0 => digest_Log_Clash.s s_0
theorem digest_Log_Clash_ok {p_0 : Value} {h_0_0 : Value} {h_0_1 : Value} {L_0 : Option O_Log} {r : Bool} (hF : digest_Log_Clash L_0 = some r) : CallOk Tryd.prog KG 16 [(eqVP p_0)] [(Log_o p_0 h_0_0 h_0_1 L_0)] (fun _ => [(Log_o p_0 h_0_0 h_0_1 L_0)]) (boolVP r) := by
  refine CallOk.intro 13 Tryd.func16 rfl Tryd.ntmps16 (Nat.le_of_ble_eq_true rfl) ?_
  intro c a w hG hn h
  unfold digest_Log_Clash at hF
  change SatL c [.slot 0 (eqVP p_0), .res (Log_o p_0 h_0_0 h_0_1 L_0)] a w at h
  cases L_0 with
  | none =>
    change digest_Log_Clash.n = some r at hF
    unfold digest_Log_Clash.n at hF
    obtain rfl := h.isp 1 rfl (fun _ _ _ q => q.2)
    replace h := h.slotc 0 rfl (V' := ptrVP (.pointer none) false) (fun _ _ h => ⟨h, rfl⟩)
    change SatL c [.slot 0 (ptrVP (.pointer none) false), .res (Log_o (.pointer none) h_0_0 h_0_1 none)] a w at h
    refine wp_seq ?_
    refine region_do (n := 13) [.slot 2 100000 100000 (fun _ _ => (boolVP false))] [0] [⟨[], [], [2], [], some 2⟩] [0, 1] mixed hn hG h (by kernel_rfl) ?_ ?_
    · exact ⟨⟨rfl, fun β => (GOk.plain (op_assign (opc (bc _))) rfl)⟩, trivial⟩
    clear h
    intro β a w h
    change SatL c [.slot 0 (ptrVP (.pointer none) false), .res (Log_o (.pointer none) h_0_0 h_0_1 none)] a w at h
    clear β
    show Code.wp Tryd.prog _ _ a w
    refine wp_seq ?_
    refine region_do (n := 13) [.slot 3 100000 100000 (fun _ _ => (ptrVP (.pointer none) false)),
      .slot 4 100000 100000 (fun _ _ => (boolVP false)),
      .slot 5 100000 100000 (fun _ _ => (boolVP false)),
      .slot 6 100000 100000 (fun _ _ => (eqVP undef)),
      .slot 7 100000 100000 (fun _ _ => (eqVP undef)),
      .slot 8 100000 100000 (fun _ _ => (eqVP undef)),
      .slot 9 100000 100000 (fun _ _ => (eqVP undef)),
      .slot 10 100000 100000 (fun _ _ => (eqVP undef)),
      .slot 11 100000 100000 (fun _ _ => (eqVP undef)),
      .slot 12 100000 100000 (fun _ _ => (boolVP false)),
      .slot 2 100000 100000 (fun _ _ => (boolVP false))] [0, 1, 2, 3, 4, 5, 6, 7, 8, 9, 10] [⟨[0], [], [2], [], some 3⟩, ⟨[2], [], [3], [0], some 4⟩, ⟨[3], [], [4], [0, 1], some 5⟩, ⟨[4], [], [5], [0, 1, 2], some 6⟩, ⟨[4], [], [6], [0, 1, 2, 3], some 7⟩, ⟨[4], [], [7], [0, 1, 2, 3, 4], some 8⟩, ⟨[4], [], [8], [0, 1, 2, 3, 4, 5], some 9⟩, ⟨[4], [], [9], [0, 1, 2, 3, 4, 5, 6], some 10⟩, ⟨[4], [], [10], [0, 1, 2, 3, 4, 5, 6, 7], some 11⟩, ⟨[4], [], [11], [0, 1, 2, 3, 4, 5, 6, 7, 8], some 12⟩, ⟨[11], [], [12], [0, 1, 2, 3, 4, 5, 6, 7, 8, 9], some 2⟩] [12, 1] mixed hn hG h (by kernel_rfl) ?_ ?_
    · exact ⟨⟨rfl, fun β => (GOk.plain (op_move (opt 0 rfl)) rfl)⟩, ⟨rfl, fun β => (GOk.plain (op_bin (bin_pnn Tryd.underlying30) (opt 0 rfl) (opc (ec _))) rfl)⟩, ⟨rfl, fun β => (GOk.plain (op_move (opt 0 rfl)) rfl)⟩, ⟨rfl, fun β => (GOk.off_v (want := true) rfl rfl rfl rfl rfl)⟩, ⟨rfl, fun β => (GOk.off_v (want := true) rfl rfl rfl rfl rfl)⟩, ⟨rfl, fun β => (GOk.off_v (want := true) rfl rfl rfl rfl rfl)⟩, ⟨rfl, fun β => (GOk.off_v (want := true) rfl rfl rfl rfl rfl)⟩, ⟨rfl, fun β => (GOk.off_v (want := true) rfl rfl rfl rfl rfl)⟩, ⟨rfl, fun β => (GOk.off_v (want := true) rfl rfl rfl rfl rfl)⟩, ⟨rfl, fun β => (GOk.plain (op_pick_f rfl (opt 0 rfl) (opc (bc _))) rfl)⟩, ⟨rfl, fun β => (GOk.plain (op_assign (opt 0 rfl)) rfl)⟩, trivial⟩
    clear h
    intro β a w h
    change SatL c [.slot 2 (boolVP false), .res (Log_o (.pointer none) h_0_0 h_0_1 none)] a w at h
    clear β
    show Code.wp Tryd.prog _ _ a w
    refine wp_ret ?_
    obtain rfl := Option.some.inj hF
    exact ⟨.inl rfl, ret1 h Tryd.results16 (r_tmp 0 rfl) [1] [(Log_o (.pointer none) h_0_0 h_0_1 none)] rfl rfl rfl⟩
  | some s_0 =>
    change digest_Log_Clash.s s_0 = some r at hF
    unfold digest_Log_Clash.s at hF
    have hp := h.isp 1 rfl (fun Φ f w q => Log_lp Φ f w q)
    replace h := h.slotc 0 rfl (V' := lpVP p_0 0) (fun _ _ h => eq_lp h hp)
    replace h := h.sep (R := lb p_0 71 [one (eqVP h_0_0), one (eqVP h_0_1)]) (S := (RP.sep (mapR h_0_0 arrK (fun l => l.length = 32) (fun u y => RP.val (strVP y) u) s_0.f_inputs) (mapR h_0_1 strK (fun _ => True) (fun u y => RP.val (boolVP y) u) s_0.f_others))) 1 rfl
    replace h := h.sep (R := mapR h_0_0 arrK (fun l => l.length = 32) (fun u y => RP.val (strVP y) u) s_0.f_inputs) (S := (mapR h_0_1 strK (fun _ => True) (fun u y => RP.val (boolVP y) u) s_0.f_others)) 2 rfl
    replace h := h.sub [0, 1, 2, 3] (by rfl)
    change SatL c [.slot 0 (lpVP p_0 0), .res (lb p_0 71 [one (eqVP h_0_0), one (eqVP h_0_1)]), .res (mapR h_0_0 arrK (fun l => l.length = 32) (fun u y => RP.val (strVP y) u) s_0.f_inputs), .res (mapR h_0_1 strK (fun _ => True) (fun u y => RP.val (boolVP y) u) s_0.f_others)] a w at h
    refine wp_seq ?_
    refine region_do (n := 13) [.slot 2 100000 100000 (fun _ _ => (boolVP false))] [0] [⟨[], [], [4], [], some 2⟩] [0, 1, 2, 3] mixed hn hG h (by kernel_rfl) ?_ ?_
    · exact ⟨⟨rfl, fun β => (GOk.plain (op_assign (opc (bc _))) rfl)⟩, trivial⟩
    clear h
    intro β a w h
    change SatL c [.slot 0 (lpVP p_0 0), .res (lb p_0 71 [one (eqVP h_0_0), one (eqVP h_0_1)]), .res (mapR h_0_0 arrK (fun l => l.length = 32) (fun u y => RP.val (strVP y) u) s_0.f_inputs), .res (mapR h_0_1 strK (fun _ => True) (fun u y => RP.val (boolVP y) u) s_0.f_others)] a w at h
    clear β
    show Code.wp Tryd.prog _ _ a w
    refine wp_seq ?_
    obtain ⟨hv1, hF⟩ := ite_some hF
    refine region_do (n := 13) [.slot 3 100000 100000 (fun _ _ => (lpVP p_0 0)),
      .slot 4 100000 100000 (fun _ _ => (boolVP true)),
      .slot 5 100000 100000 (fun _ _ => (boolVP true)),
      .slot 6 100000 100000 (fun _ _ => (lpVP p_0 0)),
      .slot 7 100000 100000 (fun _ _ => (lpVP p_0 0)),
      .slot 8 100000 100000 (fun _ _ => (lpVP p_0 1)),
      .slot 9 100000 100000 (fun _ _ => (eqVP h_0_1)),
      .slot 10 100000 100000 (fun _ _ => (intVP .i64 (s_0.f_others.length : Int))),
      .slot 11 100000 100000 (fun _ _ => (boolVP (decide ((0 : Int) < (s_0.f_others.length : Int))))),
      .slot 12 100000 100000 (fun _ _ => (boolVP (decide ((0 : Int) < (s_0.f_others.length : Int))))),
      .slot 2 100000 100000 (fun _ _ => (boolVP (decide ((0 : Int) < (s_0.f_others.length : Int)))))] [0, 1, 2, 3, 4, 5, 6, 7, 8, 9, 10] [⟨[0], [], [4], [], some 3⟩, ⟨[4], [], [5], [0], some 4⟩, ⟨[5], [], [6], [0, 1], some 5⟩, ⟨[6, 0], [], [7], [0, 1, 2], some 6⟩, ⟨[6, 7], [], [8], [0, 1, 2, 3], some 7⟩, ⟨[6, 8], [], [9], [0, 1, 2, 3, 4], some 8⟩, ⟨[6, 9, 1], [], [10], [0, 1, 2, 3, 4, 5], some 9⟩, ⟨[6, 10, 3], [], [11], [0, 1, 2, 3, 4, 5, 6], some 10⟩, ⟨[6, 11], [], [12], [0, 1, 2, 3, 4, 5, 6, 7], some 11⟩, ⟨[6, 12], [], [13], [0, 1, 2, 3, 4, 5, 6, 7, 8], some 12⟩, ⟨[13], [], [14], [0, 1, 2, 3, 4, 5, 6, 7, 8, 9], some 2⟩] [14, 1, 2, 3] mixed hn hG h (by kernel_rfl) ?_ ?_
    · exact ⟨⟨rfl, fun β => (GOk.plain (op_move (opt 0 rfl)) rfl)⟩, ⟨rfl, fun β => (GOk.plain (op_bin (bin_pnn Tryd.underlying30) (lp_ptr (opt 0 rfl)) (opc (ec _))) rfl)⟩, ⟨rfl, fun β => (GOk.plain (op_move (opt 0 rfl)) rfl)⟩, ⟨rfl, fun β => (GOk.on_eq rfl rfl rfl rfl (op_move (opt 0 rfl)))⟩, ⟨rfl, fun β => (GOk.on_eq rfl rfl rfl rfl (op_nilCheck (opt 0 rfl) (ptr_lp _ _)))⟩, ⟨rfl, fun β => (GOk.on_eq rfl rfl rfl rfl (op_fieldAddr_lbm (p := p_0) (n := 1) 0 1 Tryd.underlying71 rfl Tryd.sizeOf69 (by decide) (opt 0 rfl) rfl))⟩, ⟨rfl, fun β => (GOk.on_eq rfl rfl rfl rfl (op_load_lb1 [one (eqVP h_0_0)] [] 1 Tryd.isAgg69 (opt 0 rfl) rfl rfl))⟩, ⟨rfl, fun β => (GOk.on_eq rfl rfl rfl rfl (op_len_map 1 Tryd.underlying69 (opt 0 rfl) rfl res_id hv1))⟩, ⟨rfl, fun β => (GOk.on_eq rfl rfl rfl rfl (op_bin bin_gtr (opt 0 rfl) (opc (ic (by decide)))))⟩, ⟨rfl, fun β => (GOk.plain (op_pick_t rfl (opt 0 rfl) (opt 1 rfl)) rfl)⟩, ⟨rfl, fun β => (GOk.plain (op_assign (opt 0 rfl)) rfl)⟩, trivial⟩
    clear h
    intro β a w h
    change SatL c [.slot 2 (boolVP (decide ((0 : Int) < (s_0.f_others.length : Int)))), .res (lb p_0 71 [one (eqVP h_0_0), one (eqVP h_0_1)]), .res (mapR h_0_0 arrK (fun l => l.length = 32) (fun u y => RP.val (strVP y) u) s_0.f_inputs), .res (mapR h_0_1 strK (fun _ => True) (fun u y => RP.val (boolVP y) u) s_0.f_others)] a w at h
    clear β
    show Code.wp Tryd.prog _ _ a w
    refine wp_ret ?_
    replace h := h.unsep 2 3 rfl rfl (by decide)
    replace h := h.unsep 1 2 rfl rfl (by decide)
    replace h := h.sub [0, 1] (by rfl)
    change SatL c [.slot 2 (boolVP (decide ((0 : Int) < (s_0.f_others.length : Int)))), .res (Log_o p_0 h_0_0 h_0_1 (some s_0))] a w at h
    obtain rfl := Option.some.inj hF
    exact ⟨.inl rfl, ret1 h Tryd.results16 (r_tmp 0 rfl) [1] [(Log_o p_0 h_0_0 h_0_1 (some s_0))] rfl rfl rfl⟩
theorem digest_Log_Clash_oke {p_0 : Value} {L_0 : Option O_Log} {r : Bool} (hF : digest_Log_Clash L_0 = some r) : CallOk Tryd.prog KG 16 [(eqVP p_0)] [Log_e p_0 L_0] (fun _ => [Log_e p_0 L_0]) (boolVP r) := CallOk.ex fun h_0_0 => CallOk.ex fun h_0_1 => digest_Log_Clash_ok hF
theorem digest_Log_Clash_oku {p_0 : Value} {h_0_0 : Value} {h_0_1 : Value} {s_0 : O_Log} {r : Bool} (hF : digest_Log_Clash (some s_0) = some r) : CallOk Tryd.prog KG 16 [(eqVP p_0)] [lb p_0 71 [one (eqVP h_0_0), one (eqVP h_0_1)], mapR h_0_0 arrK (fun l => l.length = 32) (fun u y => RP.val (strVP y) u) s_0.f_inputs, mapR h_0_1 strK (fun _ => True) (fun u y => RP.val (boolVP y) u) s_0.f_others] (fun _ => [lb p_0 71 [one (eqVP h_0_0), one (eqVP h_0_1)], mapR h_0_0 arrK (fun l => l.length = 32) (fun u y => RP.val (strVP y) u) s_0.f_inputs, mapR h_0_1 strK (fun _ => True) (fun u y => RP.val (boolVP y) u) s_0.f_others]) (boolVP r) := CallOk.split2 (digest_Log_Clash_ok hF)

def digest_Log_Of (L_0 : Option O_Log) (a_1 : Int) (a_2 : List (List UInt8)) : Option ((List UInt8) × (Option O_Log)) := ((digest_input a_1 a_2).bind fun r2 => ((sha_Sum [r2]).bind fun r3 => ((digest_Log_note L_0 r3 r2).bind fun r5 => some (r3, r5))))
theorem digest_Log_Of_ok {p_0 : Value} {L_0 : Option O_Log} {a_1 : Int} {a_2 : List (List UInt8)} {r : (List UInt8) × (Option O_Log)} (hF : digest_Log_Of L_0 a_1 a_2 = some r) : CallOk Tryd.prog KG 14 [(eqVP p_0), (intVP .u8 a_1), (slVP strC a_2)] [(Log_e p_0 L_0)] (fun _ => [Log_e p_0 r.2]) (aggVP [bytesCk 32 r.1]) := by
  refine CallOk.intro 20 Tryd.func14 rfl Tryd.ntmps14 (Nat.le_of_ble_eq_true rfl) ?_
  intro c a w hG hn h
  unfold digest_Log_Of at hF
  change SatL c [.slot 0 (eqVP p_0), .slot 1 (intVP .u8 a_1), .slot 2 (slVP strC a_2), .res (Log_e p_0 L_0)] a w at h
  refine wp_seq ?_
  refine region_do (n := 20) [.slot 6 0 100000 (fun v1_ _ => (lpVP v1_ 0)),
      .res 0 100000 (fun v1_ _ => (lb (v1_) 24 [bytesCk 32 (List.replicate 32 0)]))] [0, 0] [⟨[], [], [4, 5], [], some 6⟩] [0, 1, 2, 4, 3, 5] mixed hn hG h (by kernel_rfl) ?_ ?_
  · exact ⟨⟨rfl, fun β => (GOk.plain (op_alloc Tryd.zeroValue24 z24) rfl)⟩, trivial⟩
  clear h
  intro β a w h
  change SatL c [.slot 0 (eqVP p_0), .slot 1 (intVP .u8 a_1), .slot 2 (slVP strC a_2), .slot 6 (lpVP (β 0) 0), .res (Log_e p_0 L_0), .res (lb (β 0) 24 [bytesCk 32 (List.replicate 32 0)])] a w at h
  generalize β 0 = p1 at h
  clear β
  show Code.wp Tryd.prog _ _ a w
  refine wp_seq ?_
  obtain ⟨r2, hr2, hF⟩ := bind_some hF
  refine region_do (n := 20) [.slot 9 100000 100000 (fun _ _ => (intVP .u8 a_1)),
      .slot 10 100000 100000 (fun _ _ => (slVP strC a_2)),
      .slot 11 100000 100000 (fun _ _ => (strVP r2)),
      .slot 7 100000 100000 (fun _ _ => (strVP r2))] [0, 1, 2, 3] [⟨[1], [], [6], [], some 9⟩, ⟨[2], [], [7], [0], some 10⟩, ⟨[6, 7], [], [8], [0, 1], some 11⟩, ⟨[8], [], [9], [0, 1, 2], some 7⟩] [0, 3, 9, 4, 5] mixed hn hG h (by kernel_rfl) ?_ ?_
  · exact ⟨⟨rfl, fun β => (GOk.plain (op_move (opt 0 rfl)) rfl)⟩, ⟨rfl, fun β => (GOk.plain (op_move (opt 0 rfl)) rfl)⟩, ⟨rfl, fun β => (GOk.plain (op_call Tryd.call39 (digest_input_ok hr2) ⟨(opt 0 rfl), (opt 1 rfl), trivial⟩) rfl)⟩, ⟨rfl, fun β => (GOk.plain (op_assign (opt 0 rfl)) rfl)⟩, trivial⟩
  clear h
  intro β a w h
  change SatL c [.slot 0 (eqVP p_0), .slot 6 (lpVP p1 0), .slot 7 (strVP r2), .res (Log_e p_0 L_0), .res (lb p1 24 [bytesCk 32 (List.replicate 32 0)])] a w at h
  clear β
  show Code.wp Tryd.prog _ _ a w
  refine wp_seq ?_
  obtain ⟨r3, hr3, hF⟩ := bind_some hF
  refine region_do (n := 20) [.slot 12 100000 100000 (fun _ _ => (strVP r2)),
      .slot 13 100000 100000 (fun _ _ => (slVP strC [r2])),
      .slot 14 100000 100000 (fun _ _ => (aggVP [bytesCk 32 r3])),
      .slot 8 3 100000 (fun v1_ _ => (lpVP v1_ 0)),
      .res 3 100000 (fun v1_ _ => (lb (v1_) 24 [bytesCk 32 (List.replicate 32 0)])),
      .res 3 100000 (fun v1_ _ => (lb (v1_) 24 [bytesCk 32 r3]))] [0, 1, 2, 3, 3, 4] [⟨[2], [], [5], [], some 12⟩, ⟨[5], [], [6], [0], some 13⟩, ⟨[6], [], [7], [0, 1], some 14⟩, ⟨[], [], [8, 9], [0, 1, 2], some 8⟩, ⟨[8, 7], [9], [10], [0, 1, 2, 3], none⟩] [0, 1, 2, 8, 3, 4, 10] mixed hn hG h (by kernel_rfl) ?_ ?_
  · exact ⟨⟨rfl, fun β => (GOk.plain (op_move (opt 0 rfl)) rfl)⟩, ⟨rfl, fun β => (GOk.plain (op_lit (xs := [.tmp 12]) (ys := [r2]) _ rfl Tryd.underlying22 Tryd.sizeOf9 Tryd.zeroValue9 rfl rfl (by decide) (by decide) ⟨⟨_, (opt 0 rfl), (cells_one (one_str _))⟩, trivial⟩ lens_strC) rfl)⟩, ⟨rfl, fun β => (GOk.plain (op_call Tryd.call38 (sha_Sum_ok hr3) ⟨(opt 0 rfl), trivial⟩) rfl)⟩, ⟨rfl, fun β => (GOk.plain (op_alloc Tryd.zeroValue24 z24) rfl)⟩, ⟨rfl, fun β => (GOk.plain (op_store_lb [] [bytesCk 32 (List.replicate 32 0)] [] [bytesCk 32 r3] Tryd.sizeOf24 (opt 0 rfl) (opt 1 rfl) (cells_agg _) rfl rfl rfl) rfl)⟩, trivial⟩
  clear h
  intro β a w h
  change SatL c [.slot 0 (eqVP p_0), .slot 6 (lpVP p1 0), .slot 7 (strVP r2), .slot 8 (lpVP (β 3) 0), .res (Log_e p_0 L_0), .res (lb p1 24 [bytesCk 32 (List.replicate 32 0)]), .res (lb (β 3) 24 [bytesCk 32 r3])] a w at h
  generalize β 3 = p4 at h
  clear β
  show Code.wp Tryd.prog _ _ a w
  refine wp_seq ?_
  obtain ⟨r5, hr5, hF⟩ := bind_some hF
  refine region_do (n := 20) [.slot 15 100000 100000 (fun _ _ => (eqVP p_0)),
      .slot 16 100000 100000 (fun _ _ => (aggVP [bytesCk 32 r3])),
      .slot 17 100000 100000 (fun _ _ => (strVP r2)),
      .slot 18 100000 100000 (fun _ _ => (tupVP [])),
      .res 100000 100000 (fun _ _ => (Log_e p_0 r5))] [0, 1, 2, 3, 3] [⟨[0], [], [7], [], some 15⟩, ⟨[3, 6], [], [8], [0], some 16⟩, ⟨[2], [], [9], [0, 1], some 17⟩, ⟨[7, 8, 9], [4], [10, 11], [0, 1, 2], some 18⟩] [1, 3, 5, 6, 11] mixed hn hG h (by kernel_rfl) ?_ ?_
  · exact ⟨⟨rfl, fun β => (GOk.plain (op_move (opt 0 rfl)) rfl)⟩, ⟨rfl, fun β => (GOk.plain (op_load_lb [] [bytesCk 32 r3] [] 1 Tryd.isAgg24 Tryd.sizeOf24 (opt 0 rfl) rfl rfl rfl) rfl)⟩, ⟨rfl, fun β => (GOk.plain (op_move (opt 0 rfl)) rfl)⟩, ⟨rfl, fun β => (GOk.plain (op_call Tryd.call40 (digest_Log_note_ok hr5) ⟨(opt 0 rfl), (opt 1 rfl), (opt 2 rfl), trivial⟩) rfl)⟩, trivial⟩
  clear h
  intro β a w h
  change SatL c [.slot 6 (lpVP p1 0), .slot 8 (lpVP p4 0), .res (lb p1 24 [bytesCk 32 (List.replicate 32 0)]), .res (lb p4 24 [bytesCk 32 r3]), .res (Log_e p_0 r5)] a w at h
  clear β
  show Code.wp Tryd.prog _ _ a w
  refine wp_seq ?_
  refine region_do (n := 20) [.slot 19 100000 100000 (fun _ _ => (aggVP [bytesCk 32 r3])),
      .res 100000 100000 (fun _ _ => (lb p1 24 [bytesCk 32 r3]))] [0, 1] [⟨[1, 3], [], [5], [], some 19⟩, ⟨[0, 5], [2], [6], [0], none⟩] [0, 6, 4] mixed hn hG h (by kernel_rfl) ?_ ?_
  · exact ⟨⟨rfl, fun β => (GOk.plain (op_load_lb [] [bytesCk 32 r3] [] 1 Tryd.isAgg24 Tryd.sizeOf24 (opt 0 rfl) rfl rfl rfl) rfl)⟩, ⟨rfl, fun β => (GOk.plain (op_store_lb [] [bytesCk 32 (List.replicate 32 0)] [] [bytesCk 32 r3] Tryd.sizeOf24 (opt 0 rfl) (opt 1 rfl) (cells_agg _) rfl rfl rfl) rfl)⟩, trivial⟩
  clear h
  intro β a w h
  change SatL c [.slot 6 (lpVP p1 0), .res (lb p1 24 [bytesCk 32 r3]), .res (Log_e p_0 r5)] a w at h
  clear β
  show Code.wp Tryd.prog _ _ a w
  refine wp_ret ?_
  obtain rfl := Option.some.inj hF
  exact ⟨.inl rfl, ret1 h Tryd.results14 (r_cell 0 1 rfl rfl Tryd.isAgg24 Tryd.sizeOf24 rfl) [2] [(Log_e p_0 r5)] rfl rfl rfl⟩

def law04_awake.j1 (x7 : Bool) : Option Bool := some x7
def law04_awake : Option Bool := ((digest_New).bind fun r1 => ((digest_Log_Of (some r1) 1 []).bind fun r3 => ((sha_Sum [[1]]).bind fun r4 => (if (decide (r3.1 = r4)) = true then ((digest_Log_Count r3.2).bind fun r5 => (if (decide (r5 = (1 : Int))) = true then ((digest_Log_Clash r3.2).bind fun r6 => law04_awake.j1 (!r6)) else law04_awake.j1 false)) else law04_awake.j1 false))))
theorem law04_awake_ok {r : Bool} (hF : law04_awake = some r) : CallOk Tryd.prog KG 11 [] [] (fun _ => []) (boolVP r) := by
  refine CallOk.intro 18 Tryd.func11 rfl Tryd.ntmps11 (Nat.le_of_ble_eq_true rfl) ?_
  intro c a w hG hn h
  unfold law04_awake at hF
  change SatL c [] a w at h
  refine wp_seq ?_
  refine region_do (n := 18) [.slot 0 100000 100000 (fun _ _ => (boolVP false))] [0] [⟨[], [], [0], [], some 0⟩] [] mixed hn hG h (by kernel_rfl) ?_ ?_
  · exact ⟨⟨rfl, fun β => (GOk.plain (op_assign (opc (bc _))) rfl)⟩, trivial⟩
  clear h
  intro β a w h
  change SatL c [] a w at h
  clear β
  show Code.wp Tryd.prog _ _ a w
  refine wp_seq ?_
  obtain ⟨r1, hr1, hF⟩ := bind_some hF
  refine region_do (n := 18) [.slot 2 0 100000 (fun v1_ _ => (eqVP v1_)),
      .res 0 100000 (fun v1_ _ => (Log_e (v1_) (some r1))),
      .slot 1 0 100000 (fun v1_ _ => (eqVP v1_))] [0, 0, 1] [⟨[], [], [0, 1], [], some 2⟩, ⟨[0], [], [2], [0], some 1⟩] [2, 1] mixed hn hG h (by kernel_rfl) ?_ ?_
  · exact ⟨⟨rfl, fun β => (GOk.plain (op_callv Tryd.call13 (digest_New_ok hr1) trivial) rfl)⟩, ⟨rfl, fun β => (GOk.plain (op_assign (V := (eqVP (β 0))) (opt 0 rfl)) rfl)⟩, trivial⟩
  clear h
  intro β a w h
  change SatL c [.slot 1 (eqVP (β 0)), .res (Log_e (β 0) (some r1))] a w at h
  generalize β 0 = p2 at h
  clear β
  show Code.wp Tryd.prog _ _ a w
  refine wp_seq ?_
  obtain ⟨r3, hr3, hF⟩ := bind_some hF
  obtain ⟨r4, hr4, hF⟩ := bind_some hF
  refine wp_cut (fun a w => ∃ (x7 : Bool), law04_awake.j1 x7 = some r ∧ SatL c [.slot 0 (boolVP x7), .res (Log_e p2 r3.2)] a w) ?_ ?_
  · rcases Bool.eq_false_or_eq_true (decide (r3.1 = r4)) with hb8 | hb8
    · replace hF := tt_of hb8 hF
      obtain ⟨r5, hr5, hF⟩ := bind_some hF
      rcases Bool.eq_false_or_eq_true (decide (r5 = (1 : Int))) with hb9 | hb9
      · replace hF := tt_of hb9 hF
        obtain ⟨r6, hr6, hF⟩ := bind_some hF
        refine region_do (n := 18) [.slot 3 100000 100000 (fun _ _ => (eqVP p2)),
      .slot 4 100000 100000 (fun _ _ => (aggVP [bytesCk 32 r3.1])),
      .res 100000 100000 (fun _ _ => (Log_e p2 r3.2)),
      .slot 5 100000 100000 (fun _ _ => (slVP strC [[1]])),
      .slot 6 100000 100000 (fun _ _ => (aggVP [bytesCk 32 r4])),
      .slot 7 100000 100000 (fun _ _ => (boolVP (decide (r3.1 = r4)))),
      .slot 8 100000 100000 (fun _ _ => (boolVP (decide (r3.1 = r4)))),
      .slot 9 100000 100000 (fun _ _ => (eqVP p2)),
      .slot 10 100000 100000 (fun _ _ => (intVP .i64 r5)),
      .res 100000 100000 (fun _ _ => (Log_e p2 r3.2)),
      .slot 11 100000 100000 (fun _ _ => (boolVP (decide (r5 = (1 : Int))))),
      .slot 12 100000 100000 (fun _ _ => (boolVP (decide (r5 = (1 : Int))))),
      .slot 13 100000 100000 (fun _ _ => (boolVP (decide (r5 = (1 : Int))))),
      .slot 14 100000 100000 (fun _ _ => (eqVP p2)),
      .slot 15 100000 100000 (fun _ _ => (boolVP r6)),
      .res 100000 100000 (fun _ _ => (Log_e p2 r3.2)),
      .slot 16 100000 100000 (fun _ _ => (boolVP (!r6))),
      .slot 17 100000 100000 (fun _ _ => (boolVP (!r6))),
      .slot 0 100000 100000 (fun _ _ => (boolVP (!r6)))] [0, 1, 1, 2, 3, 4, 5, 6, 7, 7, 8, 9, 10, 11, 12, 12, 13, 14, 15] [⟨[0], [], [2], [], some 3⟩, ⟨[2], [1], [3, 4], [0], some 4⟩, ⟨[], [], [5], [0, 1], some 5⟩, ⟨[5], [], [6], [0, 1, 2], some 6⟩, ⟨[3, 6], [], [7], [0, 1, 2, 3], some 7⟩, ⟨[7], [], [8], [0, 1, 2, 3, 4], some 8⟩, ⟨[8, 0], [], [9], [0, 1, 2, 3, 4, 5], some 9⟩, ⟨[8, 9], [4], [10, 11], [0, 1, 2, 3, 4, 5, 6], some 10⟩, ⟨[8, 10], [], [12], [0, 1, 2, 3, 4, 5, 6, 7], some 11⟩, ⟨[8, 12], [], [13], [0, 1, 2, 3, 4, 5, 6, 7, 8], some 12⟩, ⟨[13], [], [14], [0, 1, 2, 3, 4, 5, 6, 7, 8, 9], some 13⟩, ⟨[14, 0], [], [15], [0, 1, 2, 3, 4, 5, 6, 7, 8, 9, 10], some 14⟩, ⟨[14, 15], [11], [16, 17], [0, 1, 2, 3, 4, 5, 6, 7, 8, 9, 10, 11], some 15⟩, ⟨[14, 16], [], [18], [0, 1, 2, 3, 4, 5, 6, 7, 8, 9, 10, 11, 12], some 16⟩, ⟨[14, 18], [], [19], [0, 1, 2, 3, 4, 5, 6, 7, 8, 9, 10, 11, 12, 13], some 17⟩, ⟨[19], [], [20], [0, 1, 2, 3, 4, 5, 6, 7, 8, 9, 10, 11, 12, 13, 14], some 0⟩] [20, 17] mixed hn hG h (by kernel_rfl) ?_ ?_
        · exact ⟨⟨rfl, fun β => (GOk.plain (op_move (opt 0 rfl)) rfl)⟩, ⟨rfl, fun β => (GOk.plain (op_call Tryd.call14 (digest_Log_Of_ok hr3) ⟨(opt 0 rfl), (opc (ic (by decide))), nilc_sl, trivial⟩) rfl)⟩, ⟨rfl, fun β => (GOk.plain (op_lit (xs := [.const (.string ⟨#[1]⟩)]) (ys := [[1]]) _ rfl Tryd.underlying22 Tryd.sizeOf9 Tryd.zeroValue9 rfl rfl (by decide) (by decide) ⟨⟨_, (opc (sc _ (by decide))), (cells_one (one_str _))⟩, trivial⟩ lens_strC) rfl)⟩, ⟨rfl, fun β => (GOk.plain (op_call Tryd.call38 (sha_Sum_ok hr4) ⟨(opt 0 rfl), trivial⟩) rfl)⟩, ⟨rfl, fun β => (GOk.plain (op_bin (bin_aeql Tryd.underlying24 Tryd.underlying5 Tryd.type5 Tryd.sizeOf5 Tryd.isAgg5 Tryd.eqGuardType24) (opt 0 rfl) (opt 1 rfl)) rfl)⟩, ⟨rfl, fun β => (GOk.plain (op_move (opt 0 rfl)) rfl)⟩, ⟨rfl, fun β => (GOk.on_eq hb8 rfl rfl rfl (op_move (opt 0 rfl)))⟩, ⟨rfl, fun β => (GOk.on_eq hb8 rfl rfl rfl (op_call Tryd.call15 (digest_Log_Count_oke hr5) ⟨(opt 0 rfl), trivial⟩))⟩, ⟨rfl, fun β => (GOk.on_eq hb8 rfl rfl rfl (op_bin bin_eql (opt 0 rfl) (opc (ic (by decide)))))⟩, ⟨rfl, fun β => (GOk.plain (op_pick_t hb8 (opt 0 rfl) (opt 1 rfl)) rfl)⟩, ⟨rfl, fun β => (GOk.plain (op_move (opt 0 rfl)) rfl)⟩, ⟨rfl, fun β => (GOk.on_eq hb9 rfl rfl rfl (op_move (opt 0 rfl)))⟩, ⟨rfl, fun β => (GOk.on_eq hb9 rfl rfl rfl (op_call Tryd.call16 (digest_Log_Clash_oke hr6) ⟨(opt 0 rfl), trivial⟩))⟩, ⟨rfl, fun β => (GOk.on_eq hb9 rfl rfl rfl (op_un (un_not _) (opt 0 rfl)))⟩, ⟨rfl, fun β => (GOk.plain (op_pick_t hb9 (opt 0 rfl) (opt 1 rfl)) rfl)⟩, ⟨rfl, fun β => (GOk.plain (op_assign (opt 0 rfl)) rfl)⟩, trivial⟩
        clear h
        intro β a w h
        change SatL c [.slot 0 (boolVP (!r6)), .res (Log_e p2 r3.2)] a w at h
        clear β
        exact ⟨!r6, hF, h.sub [0, 1] (by rfl)⟩
      · replace hF := ff_of hb9 hF
        refine region_do (n := 18) [.slot 3 100000 100000 (fun _ _ => (eqVP p2)),
      .slot 4 100000 100000 (fun _ _ => (aggVP [bytesCk 32 r3.1])),
      .res 100000 100000 (fun _ _ => (Log_e p2 r3.2)),
      .slot 5 100000 100000 (fun _ _ => (slVP strC [[1]])),
      .slot 6 100000 100000 (fun _ _ => (aggVP [bytesCk 32 r4])),
      .slot 7 100000 100000 (fun _ _ => (boolVP (decide (r3.1 = r4)))),
      .slot 8 100000 100000 (fun _ _ => (boolVP (decide (r3.1 = r4)))),
      .slot 9 100000 100000 (fun _ _ => (eqVP p2)),
      .slot 10 100000 100000 (fun _ _ => (intVP .i64 r5)),
      .res 100000 100000 (fun _ _ => (Log_e p2 r3.2)),
      .slot 11 100000 100000 (fun _ _ => (boolVP (decide (r5 = (1 : Int))))),
      .slot 12 100000 100000 (fun _ _ => (boolVP (decide (r5 = (1 : Int))))),
      .slot 13 100000 100000 (fun _ _ => (boolVP (decide (r5 = (1 : Int))))),
      .slot 14 100000 100000 (fun _ _ => (eqVP undef)),
      .slot 15 100000 100000 (fun _ _ => (eqVP undef)),
      .slot 16 100000 100000 (fun _ _ => (eqVP undef)),
      .slot 17 100000 100000 (fun _ _ => (boolVP false)),
      .slot 0 100000 100000 (fun _ _ => (boolVP false))] [0, 1, 1, 2, 3, 4, 5, 6, 7, 7, 8, 9, 10, 11, 12, 13, 14, 15] [⟨[0], [], [2], [], some 3⟩, ⟨[2], [1], [3, 4], [0], some 4⟩, ⟨[], [], [5], [0, 1], some 5⟩, ⟨[5], [], [6], [0, 1, 2], some 6⟩, ⟨[3, 6], [], [7], [0, 1, 2, 3], some 7⟩, ⟨[7], [], [8], [0, 1, 2, 3, 4], some 8⟩, ⟨[8, 0], [], [9], [0, 1, 2, 3, 4, 5], some 9⟩, ⟨[8, 9], [4], [10, 11], [0, 1, 2, 3, 4, 5, 6], some 10⟩, ⟨[8, 10], [], [12], [0, 1, 2, 3, 4, 5, 6, 7], some 11⟩, ⟨[8, 12], [], [13], [0, 1, 2, 3, 4, 5, 6, 7, 8], some 12⟩, ⟨[13], [], [14], [0, 1, 2, 3, 4, 5, 6, 7, 8, 9], some 13⟩, ⟨[14], [], [15], [0, 1, 2, 3, 4, 5, 6, 7, 8, 9, 10], some 14⟩, ⟨[14], [], [16], [0, 1, 2, 3, 4, 5, 6, 7, 8, 9, 10, 11], some 15⟩, ⟨[14], [], [17], [0, 1, 2, 3, 4, 5, 6, 7, 8, 9, 10, 11, 12], some 16⟩, ⟨[14], [], [18], [0, 1, 2, 3, 4, 5, 6, 7, 8, 9, 10, 11, 12, 13], some 17⟩, ⟨[18], [], [19], [0, 1, 2, 3, 4, 5, 6, 7, 8, 9, 10, 11, 12, 13, 14], some 0⟩] [19, 11] mixed hn hG h (by kernel_rfl) ?_ ?_
        · exact ⟨⟨rfl, fun β => (GOk.plain (op_move (opt 0 rfl)) rfl)⟩, ⟨rfl, fun β => (GOk.plain (op_call Tryd.call14 (digest_Log_Of_ok hr3) ⟨(opt 0 rfl), (opc (ic (by decide))), nilc_sl, trivial⟩) rfl)⟩, ⟨rfl, fun β => (GOk.plain (op_lit (xs := [.const (.string ⟨#[1]⟩)]) (ys := [[1]]) _ rfl Tryd.underlying22 Tryd.sizeOf9 Tryd.zeroValue9 rfl rfl (by decide) (by decide) ⟨⟨_, (opc (sc _ (by decide))), (cells_one (one_str _))⟩, trivial⟩ lens_strC) rfl)⟩, ⟨rfl, fun β => (GOk.plain (op_call Tryd.call38 (sha_Sum_ok hr4) ⟨(opt 0 rfl), trivial⟩) rfl)⟩, ⟨rfl, fun β => (GOk.plain (op_bin (bin_aeql Tryd.underlying24 Tryd.underlying5 Tryd.type5 Tryd.sizeOf5 Tryd.isAgg5 Tryd.eqGuardType24) (opt 0 rfl) (opt 1 rfl)) rfl)⟩, ⟨rfl, fun β => (GOk.plain (op_move (opt 0 rfl)) rfl)⟩, ⟨rfl, fun β => (GOk.on_eq hb8 rfl rfl rfl (op_move (opt 0 rfl)))⟩, ⟨rfl, fun β => (GOk.on_eq hb8 rfl rfl rfl (op_call Tryd.call15 (digest_Log_Count_oke hr5) ⟨(opt 0 rfl), trivial⟩))⟩, ⟨rfl, fun β => (GOk.on_eq hb8 rfl rfl rfl (op_bin bin_eql (opt 0 rfl) (opc (ic (by decide)))))⟩, ⟨rfl, fun β => (GOk.plain (op_pick_t hb8 (opt 0 rfl) (opt 1 rfl)) rfl)⟩, ⟨rfl, fun β => (GOk.plain (op_move (opt 0 rfl)) rfl)⟩, ⟨rfl, fun β => (GOk.off_v (want := true) hb9 rfl rfl rfl rfl)⟩, ⟨rfl, fun β => (GOk.off_v (want := true) hb9 rfl rfl rfl rfl)⟩, ⟨rfl, fun β => (GOk.off_v (want := true) hb9 rfl rfl rfl rfl)⟩, ⟨rfl, fun β => (GOk.plain (op_pick_f hb9 (opt 0 rfl) (opc (bc _))) rfl)⟩, ⟨rfl, fun β => (GOk.plain (op_assign (opt 0 rfl)) rfl)⟩, trivial⟩
        clear h
        intro β a w h
        change SatL c [.slot 0 (boolVP false), .res (Log_e p2 r3.2)] a w at h
        clear β
        exact ⟨false, hF, h.sub [0, 1] (by rfl)⟩
    · replace hF := ff_of hb8 hF
      refine region_do (n := 18) [.slot 3 100000 100000 (fun _ _ => (eqVP p2)),
      .slot 4 100000 100000 (fun _ _ => (aggVP [bytesCk 32 r3.1])),
      .res 100000 100000 (fun _ _ => (Log_e p2 r3.2)),
      .slot 5 100000 100000 (fun _ _ => (slVP strC [[1]])),
      .slot 6 100000 100000 (fun _ _ => (aggVP [bytesCk 32 r4])),
      .slot 7 100000 100000 (fun _ _ => (boolVP (decide (r3.1 = r4)))),
      .slot 8 100000 100000 (fun _ _ => (boolVP (decide (r3.1 = r4)))),
      .slot 9 100000 100000 (fun _ _ => (eqVP undef)),
      .slot 10 100000 100000 (fun _ _ => (eqVP undef)),
      .slot 11 100000 100000 (fun _ _ => (eqVP undef)),
      .slot 12 100000 100000 (fun _ _ => (boolVP false)),
      .slot 13 100000 100000 (fun _ _ => (boolVP false)),
      .slot 14 100000 100000 (fun _ _ => (eqVP undef)),
      .slot 15 100000 100000 (fun _ _ => (eqVP undef)),
      .slot 16 100000 100000 (fun _ _ => (eqVP undef)),
      .slot 17 100000 100000 (fun _ _ => (boolVP false)),
      .slot 0 100000 100000 (fun _ _ => (boolVP false))] [0, 1, 1, 2, 3, 4, 5, 6, 7, 8, 9, 10, 11, 12, 13, 14, 15] [⟨[0], [], [2], [], some 3⟩, ⟨[2], [1], [3, 4], [0], some 4⟩, ⟨[], [], [5], [0, 1], some 5⟩, ⟨[5], [], [6], [0, 1, 2], some 6⟩, ⟨[3, 6], [], [7], [0, 1, 2, 3], some 7⟩, ⟨[7], [], [8], [0, 1, 2, 3, 4], some 8⟩, ⟨[8], [], [9], [0, 1, 2, 3, 4, 5], some 9⟩, ⟨[8], [], [10], [0, 1, 2, 3, 4, 5, 6], some 10⟩, ⟨[8], [], [11], [0, 1, 2, 3, 4, 5, 6, 7], some 11⟩, ⟨[8], [], [12], [0, 1, 2, 3, 4, 5, 6, 7, 8], some 12⟩, ⟨[12], [], [13], [0, 1, 2, 3, 4, 5, 6, 7, 8, 9], some 13⟩, ⟨[13], [], [14], [0, 1, 2, 3, 4, 5, 6, 7, 8, 9, 10], some 14⟩, ⟨[13], [], [15], [0, 1, 2, 3, 4, 5, 6, 7, 8, 9, 10, 11], some 15⟩, ⟨[13], [], [16], [0, 1, 2, 3, 4, 5, 6, 7, 8, 9, 10, 11, 12], some 16⟩, ⟨[13], [], [17], [0, 1, 2, 3, 4, 5, 6, 7, 8, 9, 10, 11, 12, 13], some 17⟩, ⟨[17], [], [18], [0, 1, 2, 3, 4, 5, 6, 7, 8, 9, 10, 11, 12, 13, 14], some 0⟩] [18, 4] mixed hn hG h (by kernel_rfl) ?_ ?_
      · exact ⟨⟨rfl, fun β => (GOk.plain (op_move (opt 0 rfl)) rfl)⟩, ⟨rfl, fun β => (GOk.plain (op_call Tryd.call14 (digest_Log_Of_ok hr3) ⟨(opt 0 rfl), (opc (ic (by decide))), nilc_sl, trivial⟩) rfl)⟩, ⟨rfl, fun β => (GOk.plain (op_lit (xs := [.const (.string ⟨#[1]⟩)]) (ys := [[1]]) _ rfl Tryd.underlying22 Tryd.sizeOf9 Tryd.zeroValue9 rfl rfl (by decide) (by decide) ⟨⟨_, (opc (sc _ (by decide))), (cells_one (one_str _))⟩, trivial⟩ lens_strC) rfl)⟩, ⟨rfl, fun β => (GOk.plain (op_call Tryd.call38 (sha_Sum_ok hr4) ⟨(opt 0 rfl), trivial⟩) rfl)⟩, ⟨rfl, fun β => (GOk.plain (op_bin (bin_aeql Tryd.underlying24 Tryd.underlying5 Tryd.type5 Tryd.sizeOf5 Tryd.isAgg5 Tryd.eqGuardType24) (opt 0 rfl) (opt 1 rfl)) rfl)⟩, ⟨rfl, fun β => (GOk.plain (op_move (opt 0 rfl)) rfl)⟩, ⟨rfl, fun β => (GOk.off_v (want := true) hb8 rfl rfl rfl rfl)⟩, ⟨rfl, fun β => (GOk.off_v (want := true) hb8 rfl rfl rfl rfl)⟩, ⟨rfl, fun β => (GOk.off_v (want := true) hb8 rfl rfl rfl rfl)⟩, ⟨rfl, fun β => (GOk.plain (op_pick_f hb8 (opt 0 rfl) (opc (bc _))) rfl)⟩, ⟨rfl, fun β => (GOk.plain (op_move (opt 0 rfl)) rfl)⟩, ⟨rfl, fun β => (GOk.off_v (want := true) rfl rfl rfl rfl rfl)⟩, ⟨rfl, fun β => (GOk.off_v (want := true) rfl rfl rfl rfl rfl)⟩, ⟨rfl, fun β => (GOk.off_v (want := true) rfl rfl rfl rfl rfl)⟩, ⟨rfl, fun β => (GOk.plain (op_pick_f rfl (opt 0 rfl) (opc (bc _))) rfl)⟩, ⟨rfl, fun β => (GOk.plain (op_assign (opt 0 rfl)) rfl)⟩, trivial⟩
      clear h
      intro β a w h
      change SatL c [.slot 0 (boolVP false), .res (Log_e p2 r3.2)] a w at h
      clear β
      exact ⟨false, hF, h.sub [0, 1] (by rfl)⟩
  · clear h hF
    rintro a w ⟨x7, hF, h⟩
    unfold law04_awake.j1 at hF
    show Code.wp Tryd.prog _ _ a w
    refine wp_ret ?_
    obtain rfl := Option.some.inj hF
    exact ⟨.inl rfl, ret1 h Tryd.results11 (r_tmp 0 rfl) [] [] rfl rfl rfl⟩

def law04_light.b2 (a_0 : List (S_law04_Ask)) (x14 : Int) (x37 : Int) : Option (Flow Bool Int) := (if (decide (x37 < (((a_0.getD x14.toNat default).f_Parts).length : Int))) = true then (if (0 : Int) ≤ x37 ∧ x37 < ((a_0.getD x14.toNat default).f_Parts).length then (if (decide ((1000 : Int) < ((((a_0.getD x14.toNat default).f_Parts).getD x37.toNat default).length : Int))) = true then some (.ret false) else some (.cont (IntKind.wrap .i64 (x37 + 1)))) else none) else some (.brk x37))
def law04_light.j1 (a_0 : List (S_law04_Ask)) (x14 : Int) (x32 : Bool) : Option (Flow Bool Int) := (if x32 = true then some (.ret false) else ((loopN (fun s : Int => law04_light.b2 a_0 x14 s) (((((a_0.getD x14.toNat default).f_Parts).length : Int) - 0 : Int).toNat + 2) 0).bind fun cr => match cr with | .ret r => some (.ret r) | .next y49 => some (.cont (IntKind.wrap .i64 (x14 + 1)))))
def law04_light.b1 (a_0 : List (S_law04_Ask)) (x14 : Int) : Option (Flow Bool Int) := (if (decide (x14 < (a_0.length : Int))) = true then (if (0 : Int) ≤ x14 ∧ x14 < a_0.length then (if (decide ((40 : Int) < (a_0.length : Int))) = true then law04_light.j1 a_0 x14 true else law04_light.j1 a_0 x14 (decide ((20 : Int) < (((a_0.getD x14.toNat default).f_Parts).length : Int)))) else none) else some (.brk x14))
def law04_light (a_0 : List (S_law04_Ask)) : Option Bool := ((loopN (fun s : Int => law04_light.b1 a_0 s) (((a_0.length : Int) - 0 : Int).toNat + 2) 0).bind fun cr => match cr with | .ret r => some r | .next y55 => some true)
theorem law04_light_ok {a_0 : List (S_law04_Ask)} {r : Bool} (hF : law04_light a_0 = some r) : CallOk Tryd.prog KG 12 [(slVP S_law04_Ask.ck a_0)] [] (fun _ => []) (boolVP r) := by
  refine CallOk.intro 34 Tryd.func12 rfl Tryd.ntmps12 (Nat.le_of_ble_eq_true rfl) ?_
  intro c a w hG hn h
  unfold law04_light at hF
  change SatL c [.slot 0 (slVP S_law04_Ask.ck a_0)] a w at h
  refine wp_seq ?_
  refine region_do (n := 34) [.slot 2 100000 100000 (fun _ _ => (boolVP false))] [0] [⟨[], [], [1], [], some 2⟩] [0] mixed hn hG h (by kernel_rfl) ?_ ?_
  · exact ⟨⟨rfl, fun β => (GOk.plain (op_assign (opc (bc _))) rfl)⟩, trivial⟩
  clear h
  intro β a w h
  change SatL c [.slot 0 (slVP S_law04_Ask.ck a_0)] a w at h
  clear β
  show Code.wp Tryd.prog _ _ a w
  refine wp_seq ?_
  refine wp_seq ?_
  refine region_do (n := 34) [.slot 7 100000 100000 (fun _ _ => (slVP S_law04_Ask.ck a_0)),
      .slot 8 100000 100000 (fun _ _ => (intVP .i64 (a_0.length : Int))),
      .slot 9 100000 100000 (fun _ _ => (intVP .i64 0))] [0, 1, 2] [⟨[0], [], [1], [], some 7⟩, ⟨[1], [], [2], [0], some 8⟩, ⟨[], [], [3], [0, 1], some 9⟩] [0, 1, 2, 3] mixed hn hG h (by kernel_rfl) ?_ ?_
  · exact ⟨⟨rfl, fun β => (GOk.plain (op_move (opt 0 rfl)) rfl)⟩, ⟨rfl, fun β => (GOk.plain (op_len_sl Tryd.underlying29 (opt 0 rfl)) rfl)⟩, ⟨rfl, fun β => (GOk.plain (op_move (opc (ic (by decide)))) rfl)⟩, trivial⟩
  clear h
  intro β a w h
  change SatL c [.slot 0 (slVP S_law04_Ask.ck a_0), .slot 7 (slVP S_law04_Ask.ck a_0), .slot 8 (intVP .i64 (a_0.length : Int)), .slot 9 (intVP .i64 0)] a w at h
  clear β
  show Code.wp Tryd.prog _ _ a w
  refine wp_block ?_
  obtain ⟨cr51, hl52, hF⟩ := bind_some hF
  refine wp_mono (wp_loopN (R := Bool) (S := Int) (fun s a w => SatL c [.slot 0 (slVP S_law04_Ask.ck a_0), .slot 7 (slVP S_law04_Ask.ck a_0), .slot 8 (intVP .i64 (a_0.length : Int)), .slot 9 (intVP .i64 s)] a w) (fun res e a w => match res with | .next s => e = .exit 0 ∧ SatL c [] a w | .ret r => e = .ret ∧ RetOk Tryd.prog Tryd.f12 c (boolVP r) (fun _ => []) a w) ?_ _ 0 _ _ _ (h.sub [0, 1, 2, 3] (by rfl)) hl52) ?_
  · clear hl52 hF h
    intro x14 a w o h hF
    change law04_light.b1 a_0 x14 = some o at hF
    unfold law04_light.b1 at hF
    change SatL c [.slot 0 (slVP S_law04_Ask.ck a_0), .slot 7 (slVP S_law04_Ask.ck a_0), .slot 8 (intVP .i64 (a_0.length : Int)), .slot 9 (intVP .i64 x14)] a w at h
    refine wp_seq ?_
    refine region_do (n := 34) [.slot 10 100000 100000 (fun _ _ => (boolVP (decide (x14 < (a_0.length : Int)))))] [0] [⟨[3, 2], [], [4], [], some 10⟩] [0, 1, 2, 3, 4] mixed hn hG h (by kernel_rfl) ?_ ?_
    · exact ⟨⟨rfl, fun β => (GOk.plain (op_bin bin_lss (opt 0 rfl) (opt 1 rfl)) rfl)⟩, trivial⟩
    clear h
    intro β a w h
    change SatL c [.slot 0 (slVP S_law04_Ask.ck a_0), .slot 7 (slVP S_law04_Ask.ck a_0), .slot 8 (intVP .i64 (a_0.length : Int)), .slot 9 (intVP .i64 x14), .slot 10 (boolVP (decide (x14 < (a_0.length : Int))))] a w at h
    clear β
    show Code.wp Tryd.prog _ _ a w
    refine wp_seq ?_
    refine cond_L h 4 rfl (fun hb29 => ?_) (fun hb29 => ?_)
    · replace hF := tt_of hb29 hF
      replace h := h.sub [0, 1, 2, 3] (by rfl)
      change SatL c [.slot 0 (slVP S_law04_Ask.ck a_0), .slot 7 (slVP S_law04_Ask.ck a_0), .slot 8 (intVP .i64 (a_0.length : Int)), .slot 9 (intVP .i64 x14)] a w at h
      refine wp_skip ?_
      show Code.wp Tryd.prog _ _ a w
      refine wp_seq ?_
      refine wp_block ?_
      refine wp_seq ?_
      obtain ⟨hv30, hF⟩ := ite_some hF
      refine region_do (n := 34) [.slot 11 100000 100000 (fun _ _ => (ppVP [one (intVP .u8 ((a_0.getD x14.toNat default).f_Domain)), one (slVP strC ((a_0.getD x14.toNat default).f_Parts)), one (boolVP ((a_0.getD x14.toNat default).f_Two)), bytesCk 32 ((a_0.getD x14.toNat default).f_A), bytesCk 32 ((a_0.getD x14.toNat default).f_B)])),
      .slot 12 100000 100000 (fun _ _ => (aggVP [one (intVP .u8 ((a_0.getD x14.toNat default).f_Domain)), one (slVP strC ((a_0.getD x14.toNat default).f_Parts)), one (boolVP ((a_0.getD x14.toNat default).f_Two)), bytesCk 32 ((a_0.getD x14.toNat default).f_A), bytesCk 32 ((a_0.getD x14.toNat default).f_B)])),
      .slot 4 2 100000 (fun v1_ _ => (lpVP v1_ 0)),
      .res 2 100000 (fun v1_ _ => (lb (v1_) 26 [one (intVP .u8 ((S_law04_Ask.mk (0 : Int) [] false (List.replicate 32 0) (List.replicate 32 0)).f_Domain)), one (slVP strC ((S_law04_Ask.mk (0 : Int) [] false (List.replicate 32 0) (List.replicate 32 0)).f_Parts)), one (boolVP ((S_law04_Ask.mk (0 : Int) [] false (List.replicate 32 0) (List.replicate 32 0)).f_Two)), bytesCk 32 ((S_law04_Ask.mk (0 : Int) [] false (List.replicate 32 0) (List.replicate 32 0)).f_A), bytesCk 32 ((S_law04_Ask.mk (0 : Int) [] false (List.replicate 32 0) (List.replicate 32 0)).f_B)])),
      .res 2 100000 (fun v1_ _ => (lb (v1_) 26 [one (intVP .u8 ((a_0.getD x14.toNat default).f_Domain)), one (slVP strC ((a_0.getD x14.toNat default).f_Parts)), one (boolVP ((a_0.getD x14.toNat default).f_Two)), bytesCk 32 ((a_0.getD x14.toNat default).f_A), bytesCk 32 ((a_0.getD x14.toNat default).f_B)]))] [0, 1, 2, 2, 3] [⟨[1, 3], [], [4], [], some 11⟩, ⟨[4], [], [5], [0], some 12⟩, ⟨[], [], [6, 7], [0, 1], some 4⟩, ⟨[6, 5], [7], [8], [0, 1, 2], none⟩] [0, 6, 1, 2, 3, 8] mixed hn hG h (by kernel_rfl) ?_ ?_
      · exact ⟨⟨rfl, fun β => (GOk.plain (op_indexAddr_sl Tryd.underlying29 Tryd.sizeOf26 S_law04_Ask.lens (opt 0 rfl) (opt 1 rfl) hv30) rfl)⟩, ⟨rfl, fun β => (GOk.plain (op_load_pp [one (intVP .u8 ((a_0.getD x14.toNat default).f_Domain)), one (slVP strC ((a_0.getD x14.toNat default).f_Parts)), one (boolVP ((a_0.getD x14.toNat default).f_Two)), bytesCk 32 ((a_0.getD x14.toNat default).f_A), bytesCk 32 ((a_0.getD x14.toNat default).f_B)] [] Tryd.isAgg26 Tryd.sizeOf26 (opt 0 rfl) rfl) rfl)⟩, ⟨rfl, fun β => (GOk.plain (op_alloc Tryd.zeroValue26 z26) rfl)⟩, ⟨rfl, fun β => (GOk.plain (op_store_lb [] [one (intVP .u8 ((S_law04_Ask.mk (0 : Int) [] false (List.replicate 32 0) (List.replicate 32 0)).f_Domain)), one (slVP strC ((S_law04_Ask.mk (0 : Int) [] false (List.replicate 32 0) (List.replicate 32 0)).f_Parts)), one (boolVP ((S_law04_Ask.mk (0 : Int) [] false (List.replicate 32 0) (List.replicate 32 0)).f_Two)), bytesCk 32 ((S_law04_Ask.mk (0 : Int) [] false (List.replicate 32 0) (List.replicate 32 0)).f_A), bytesCk 32 ((S_law04_Ask.mk (0 : Int) [] false (List.replicate 32 0) (List.replicate 32 0)).f_B)] [] [one (intVP .u8 ((a_0.getD x14.toNat default).f_Domain)), one (slVP strC ((a_0.getD x14.toNat default).f_Parts)), one (boolVP ((a_0.getD x14.toNat default).f_Two)), bytesCk 32 ((a_0.getD x14.toNat default).f_A), bytesCk 32 ((a_0.getD x14.toNat default).f_B)] Tryd.sizeOf26 (opt 0 rfl) (opt 1 rfl) (cells_agg _) rfl rfl rfl) rfl)⟩, trivial⟩
      clear h
      intro β a w h
      change SatL c [.slot 0 (slVP S_law04_Ask.ck a_0), .slot 4 (lpVP (β 2) 0), .slot 7 (slVP S_law04_Ask.ck a_0), .slot 8 (intVP .i64 (a_0.length : Int)), .slot 9 (intVP .i64 x14), .res (lb (β 2) 26 [one (intVP .u8 ((a_0.getD x14.toNat default).f_Domain)), one (slVP strC ((a_0.getD x14.toNat default).f_Parts)), one (boolVP ((a_0.getD x14.toNat default).f_Two)), bytesCk 32 ((a_0.getD x14.toNat default).f_A), bytesCk 32 ((a_0.getD x14.toNat default).f_B)])] a w at h
      generalize β 2 = p31 at h
      clear β
      show Code.wp Tryd.prog _ _ a w
      refine wp_seq ?_
      refine wp_seq ?_
      refine wp_cut (fun a w => ∃ (x32 : Bool), law04_light.j1 a_0 x14 x32 = some o ∧ SatL c [.slot 0 (slVP S_law04_Ask.ck a_0), .slot 4 (lpVP p31 0), .slot 7 (slVP S_law04_Ask.ck a_0), .slot 8 (intVP .i64 (a_0.length : Int)), .slot 9 (intVP .i64 x14), .slot 21 (boolVP x32), .res (lb p31 26 [one (intVP .u8 ((a_0.getD x14.toNat default).f_Domain)), one (slVP strC ((a_0.getD x14.toNat default).f_Parts)), one (boolVP ((a_0.getD x14.toNat default).f_Two)), bytesCk 32 ((a_0.getD x14.toNat default).f_A), bytesCk 32 ((a_0.getD x14.toNat default).f_B)])] a w) ?_ ?_
      · rcases Bool.eq_false_or_eq_true (decide ((40 : Int) < (a_0.length : Int))) with hb50 | hb50
        · replace hF := tt_of hb50 hF
          refine region_do (n := 34) [.slot 13 100000 100000 (fun _ _ => (slVP S_law04_Ask.ck a_0)),
      .slot 14 100000 100000 (fun _ _ => (intVP .i64 (a_0.length : Int))),
      .slot 15 100000 100000 (fun _ _ => (boolVP (decide ((40 : Int) < (a_0.length : Int))))),
      .slot 16 100000 100000 (fun _ _ => (boolVP (decide ((40 : Int) < (a_0.length : Int))))),
      .slot 17 100000 100000 (fun _ _ => (eqVP undef)),
      .slot 18 100000 100000 (fun _ _ => (eqVP undef)),
      .slot 19 100000 100000 (fun _ _ => (eqVP undef)),
      .slot 20 100000 100000 (fun _ _ => (eqVP undef)),
      .slot 21 100000 100000 (fun _ _ => (boolVP true))] [0, 1, 2, 3, 4, 5, 6, 7, 8] [⟨[0], [], [6], [], some 13⟩, ⟨[6], [], [7], [0], some 14⟩, ⟨[7], [], [8], [0, 1], some 15⟩, ⟨[8], [], [9], [0, 1, 2], some 16⟩, ⟨[9], [], [10], [0, 1, 2, 3], some 17⟩, ⟨[9], [], [11], [0, 1, 2, 3, 4], some 18⟩, ⟨[9], [], [12], [0, 1, 2, 3, 4, 5], some 19⟩, ⟨[9], [], [13], [0, 1, 2, 3, 4, 5, 6], some 20⟩, ⟨[9], [], [14], [0, 1, 2, 3, 4, 5, 6, 7], some 21⟩] [0, 1, 2, 3, 4, 14, 5] mixed hn hG h (by kernel_rfl) ?_ ?_
          · exact ⟨⟨rfl, fun β => (GOk.plain (op_move (opt 0 rfl)) rfl)⟩, ⟨rfl, fun β => (GOk.plain (op_len_sl Tryd.underlying29 (opt 0 rfl)) rfl)⟩, ⟨rfl, fun β => (GOk.plain (op_bin bin_gtr (opt 0 rfl) (opc (ic (by decide)))) rfl)⟩, ⟨rfl, fun β => (GOk.plain (op_move (opt 0 rfl)) rfl)⟩, ⟨rfl, fun β => (GOk.off_v (want := false) hb50 rfl rfl rfl rfl)⟩, ⟨rfl, fun β => (GOk.off_v (want := false) hb50 rfl rfl rfl rfl)⟩, ⟨rfl, fun β => (GOk.off_v (want := false) hb50 rfl rfl rfl rfl)⟩, ⟨rfl, fun β => (GOk.off_v (want := false) hb50 rfl rfl rfl rfl)⟩, ⟨rfl, fun β => (GOk.plain (op_pick_t hb50 (opt 0 rfl) (opc (bc _))) rfl)⟩, trivial⟩
          clear h
          intro β a w h
          change SatL c [.slot 0 (slVP S_law04_Ask.ck a_0), .slot 4 (lpVP p31 0), .slot 7 (slVP S_law04_Ask.ck a_0), .slot 8 (intVP .i64 (a_0.length : Int)), .slot 9 (intVP .i64 x14), .slot 21 (boolVP true), .res (lb p31 26 [one (intVP .u8 ((a_0.getD x14.toNat default).f_Domain)), one (slVP strC ((a_0.getD x14.toNat default).f_Parts)), one (boolVP ((a_0.getD x14.toNat default).f_Two)), bytesCk 32 ((a_0.getD x14.toNat default).f_A), bytesCk 32 ((a_0.getD x14.toNat default).f_B)])] a w at h
          clear β
          exact ⟨true, hF, h.sub [0, 1, 2, 3, 4, 5, 6] (by rfl)⟩
        · replace hF := ff_of hb50 hF
          refine region_do (n := 34) [.slot 13 100000 100000 (fun _ _ => (slVP S_law04_Ask.ck a_0)),
      .slot 14 100000 100000 (fun _ _ => (intVP .i64 (a_0.length : Int))),
      .slot 15 100000 100000 (fun _ _ => (boolVP (decide ((40 : Int) < (a_0.length : Int))))),
      .slot 16 100000 100000 (fun _ _ => (boolVP (decide ((40 : Int) < (a_0.length : Int))))),
      .slot 17 100000 100000 (fun _ _ => (lpVP p31 1)),
      .slot 18 100000 100000 (fun _ _ => (slVP strC ((a_0.getD x14.toNat default).f_Parts))),
      .slot 19 100000 100000 (fun _ _ => (intVP .i64 (((a_0.getD x14.toNat default).f_Parts).length : Int))),
      .slot 20 100000 100000 (fun _ _ => (boolVP (decide ((20 : Int) < (((a_0.getD x14.toNat default).f_Parts).length : Int))))),
      .slot 21 100000 100000 (fun _ _ => (boolVP (decide ((20 : Int) < (((a_0.getD x14.toNat default).f_Parts).length : Int)))))] [0, 1, 2, 3, 4, 5, 6, 7, 8] [⟨[0], [], [6], [], some 13⟩, ⟨[6], [], [7], [0], some 14⟩, ⟨[7], [], [8], [0, 1], some 15⟩, ⟨[8], [], [9], [0, 1, 2], some 16⟩, ⟨[9, 1], [], [10], [0, 1, 2, 3], some 17⟩, ⟨[9, 10, 5], [], [11], [0, 1, 2, 3, 4], some 18⟩, ⟨[9, 11], [], [12], [0, 1, 2, 3, 4, 5], some 19⟩, ⟨[9, 12], [], [13], [0, 1, 2, 3, 4, 5, 6], some 20⟩, ⟨[9, 13], [], [14], [0, 1, 2, 3, 4, 5, 6, 7], some 21⟩] [0, 1, 2, 3, 4, 14, 5] mixed hn hG h (by kernel_rfl) ?_ ?_
          · exact ⟨⟨rfl, fun β => (GOk.plain (op_move (opt 0 rfl)) rfl)⟩, ⟨rfl, fun β => (GOk.plain (op_len_sl Tryd.underlying29 (opt 0 rfl)) rfl)⟩, ⟨rfl, fun β => (GOk.plain (op_bin bin_gtr (opt 0 rfl) (opc (ic (by decide)))) rfl)⟩, ⟨rfl, fun β => (GOk.plain (op_move (opt 0 rfl)) rfl)⟩, ⟨rfl, fun β => (GOk.on_eq hb50 rfl rfl rfl (op_fieldAddr_lbm (p := p31) (n := 1) 0 1 Tryd.underlying26 rfl Tryd.sizeOf22 (by decide) (opt 0 rfl) rfl))⟩, ⟨rfl, fun β => (GOk.on_eq hb50 rfl rfl rfl (op_load_lb1 [one (intVP .u8 ((a_0.getD x14.toNat default).f_Domain))] [one (boolVP ((a_0.getD x14.toNat default).f_Two)), bytesCk 32 ((a_0.getD x14.toNat default).f_A), bytesCk 32 ((a_0.getD x14.toNat default).f_B)] 1 Tryd.isAgg22 (opt 0 rfl) rfl rfl))⟩, ⟨rfl, fun β => (GOk.on_eq hb50 rfl rfl rfl (op_len_sl Tryd.underlying22 (opt 0 rfl)))⟩, ⟨rfl, fun β => (GOk.on_eq hb50 rfl rfl rfl (op_bin bin_gtr (opt 0 rfl) (opc (ic (by decide)))))⟩, ⟨rfl, fun β => (GOk.plain (op_pick_f hb50 (opt 0 rfl) (opt 1 rfl)) rfl)⟩, trivial⟩
          clear h
          intro β a w h
          change SatL c [.slot 0 (slVP S_law04_Ask.ck a_0), .slot 4 (lpVP p31 0), .slot 7 (slVP S_law04_Ask.ck a_0), .slot 8 (intVP .i64 (a_0.length : Int)), .slot 9 (intVP .i64 x14), .slot 21 (boolVP (decide ((20 : Int) < (((a_0.getD x14.toNat default).f_Parts).length : Int)))), .res (lb p31 26 [one (intVP .u8 ((a_0.getD x14.toNat default).f_Domain)), one (slVP strC ((a_0.getD x14.toNat default).f_Parts)), one (boolVP ((a_0.getD x14.toNat default).f_Two)), bytesCk 32 ((a_0.getD x14.toNat default).f_A), bytesCk 32 ((a_0.getD x14.toNat default).f_B)])] a w at h
          clear β
          exact ⟨decide ((20 : Int) < (((a_0.getD x14.toNat default).f_Parts).length : Int)), hF, h.sub [0, 1, 2, 3, 4, 5, 6] (by rfl)⟩
      · clear h hF
        rintro a w ⟨x32, hF, h⟩
        unfold law04_light.j1 at hF
        show Code.wp Tryd.prog _ _ a w
        refine cond_L h 5 rfl (fun hb33 => ?_) (fun hb33 => ?_)
        · replace hF := tt_of hb33 hF
          replace h := h.sub [] (by rfl)
          change SatL c [] a w at h
          refine wp_seq ?_
          refine region_do (n := 34) [.slot 2 100000 100000 (fun _ _ => (boolVP false))] [0] [⟨[], [], [0], [], some 2⟩] [0] mixed hn hG h (by kernel_rfl) ?_ ?_
          · exact ⟨⟨rfl, fun β => (GOk.plain (op_assign (opc (bc _))) rfl)⟩, trivial⟩
          clear h
          intro β a w h
          change SatL c [.slot 2 (boolVP false)] a w at h
          clear β
          show Code.wp Tryd.prog _ _ a w
          refine wp_ret ?_
          obtain rfl := Option.some.inj hF
          exact ⟨ret_ne, rfl, ret1 h Tryd.results12 (r_tmp 0 rfl) [] [] rfl rfl rfl⟩
        · replace hF := ff_of hb33 hF
          replace h := h.sub [0, 1, 2, 3, 4, 6] (by rfl)
          change SatL c [.slot 0 (slVP S_law04_Ask.ck a_0), .slot 4 (lpVP p31 0), .slot 7 (slVP S_law04_Ask.ck a_0), .slot 8 (intVP .i64 (a_0.length : Int)), .slot 9 (intVP .i64 x14), .res (lb p31 26 [one (intVP .u8 ((a_0.getD x14.toNat default).f_Domain)), one (slVP strC ((a_0.getD x14.toNat default).f_Parts)), one (boolVP ((a_0.getD x14.toNat default).f_Two)), bytesCk 32 ((a_0.getD x14.toNat default).f_A), bytesCk 32 ((a_0.getD x14.toNat default).f_B)])] a w at h
          refine wp_skip ?_
          show Code.wp Tryd.prog _ _ a w
          refine wp_seq ?_
          refine region_do (n := 34) [.slot 22 100000 100000 (fun _ _ => (lpVP p31 1)),
      .slot 23 100000 100000 (fun _ _ => (slVP strC ((a_0.getD x14.toNat default).f_Parts))),
      .slot 24 100000 100000 (fun _ _ => (intVP .i64 (((a_0.getD x14.toNat default).f_Parts).length : Int))),
      .slot 25 100000 100000 (fun _ _ => (intVP .i64 0))] [0, 1, 2, 3] [⟨[1], [], [6], [], some 22⟩, ⟨[6, 5], [], [7], [0], some 23⟩, ⟨[7], [], [8], [0, 1], some 24⟩, ⟨[], [], [9], [0, 1, 2], some 25⟩] [0, 2, 3, 4, 7, 8, 9] mixed hn hG h (by kernel_rfl) ?_ ?_
          · exact ⟨⟨rfl, fun β => (GOk.plain (op_fieldAddr_lbm (p := p31) (n := 1) 0 1 Tryd.underlying26 rfl Tryd.sizeOf22 (by decide) (opt 0 rfl) rfl) rfl)⟩, ⟨rfl, fun β => (GOk.plain (op_load_lb1 [one (intVP .u8 ((a_0.getD x14.toNat default).f_Domain))] [one (boolVP ((a_0.getD x14.toNat default).f_Two)), bytesCk 32 ((a_0.getD x14.toNat default).f_A), bytesCk 32 ((a_0.getD x14.toNat default).f_B)] 1 Tryd.isAgg22 (opt 0 rfl) rfl rfl) rfl)⟩, ⟨rfl, fun β => (GOk.plain (op_len_sl Tryd.underlying22 (opt 0 rfl)) rfl)⟩, ⟨rfl, fun β => (GOk.plain (op_move (opc (ic (by decide)))) rfl)⟩, trivial⟩
          clear h
          intro β a w h
          change SatL c [.slot 0 (slVP S_law04_Ask.ck a_0), .slot 7 (slVP S_law04_Ask.ck a_0), .slot 8 (intVP .i64 (a_0.length : Int)), .slot 9 (intVP .i64 x14), .slot 23 (slVP strC ((a_0.getD x14.toNat default).f_Parts)), .slot 24 (intVP .i64 (((a_0.getD x14.toNat default).f_Parts).length : Int)), .slot 25 (intVP .i64 0)] a w at h
          clear β
          show Code.wp Tryd.prog _ _ a w
          refine wp_block ?_
          obtain ⟨cr45, hl46, hF⟩ := bind_some hF
          refine wp_mono (wp_loopN (R := Bool) (S := Int) (fun s a w => SatL c [.slot 0 (slVP S_law04_Ask.ck a_0), .slot 7 (slVP S_law04_Ask.ck a_0), .slot 8 (intVP .i64 (a_0.length : Int)), .slot 9 (intVP .i64 x14), .slot 23 (slVP strC ((a_0.getD x14.toNat default).f_Parts)), .slot 24 (intVP .i64 (((a_0.getD x14.toNat default).f_Parts).length : Int)), .slot 25 (intVP .i64 s)] a w) (fun res e a w => match res with | .next s => e = .exit 2 ∧ SatL c [.slot 0 (slVP S_law04_Ask.ck a_0), .slot 7 (slVP S_law04_Ask.ck a_0), .slot 8 (intVP .i64 (a_0.length : Int)), .slot 9 (intVP .i64 x14)] a w | .ret r => e = .ret ∧ RetOk Tryd.prog Tryd.f12 c (boolVP r) (fun _ => []) a w) ?_ _ 0 _ _ _ (h.sub [0, 1, 2, 3, 4, 5, 6] (by rfl)) hl46) ?_
          · clear hl46 hF h
            intro x37 a w o h hF
            change law04_light.b2 a_0 x14 x37 = some o at hF
            unfold law04_light.b2 at hF
            change SatL c [.slot 0 (slVP S_law04_Ask.ck a_0), .slot 7 (slVP S_law04_Ask.ck a_0), .slot 8 (intVP .i64 (a_0.length : Int)), .slot 9 (intVP .i64 x14), .slot 23 (slVP strC ((a_0.getD x14.toNat default).f_Parts)), .slot 24 (intVP .i64 (((a_0.getD x14.toNat default).f_Parts).length : Int)), .slot 25 (intVP .i64 x37)] a w at h
            refine wp_seq ?_
            refine region_do (n := 34) [.slot 26 100000 100000 (fun _ _ => (boolVP (decide (x37 < (((a_0.getD x14.toNat default).f_Parts).length : Int)))))] [0] [⟨[6, 5], [], [7], [], some 26⟩] [0, 1, 2, 3, 4, 5, 6, 7] mixed hn hG h (by kernel_rfl) ?_ ?_
            · exact ⟨⟨rfl, fun β => (GOk.plain (op_bin bin_lss (opt 0 rfl) (opt 1 rfl)) rfl)⟩, trivial⟩
            clear h
            intro β a w h
            change SatL c [.slot 0 (slVP S_law04_Ask.ck a_0), .slot 7 (slVP S_law04_Ask.ck a_0), .slot 8 (intVP .i64 (a_0.length : Int)), .slot 9 (intVP .i64 x14), .slot 23 (slVP strC ((a_0.getD x14.toNat default).f_Parts)), .slot 24 (intVP .i64 (((a_0.getD x14.toNat default).f_Parts).length : Int)), .slot 25 (intVP .i64 x37), .slot 26 (boolVP (decide (x37 < (((a_0.getD x14.toNat default).f_Parts).length : Int))))] a w at h
            clear β
            show Code.wp Tryd.prog _ _ a w
            refine wp_seq ?_
            refine cond_L h 7 rfl (fun hb42 => ?_) (fun hb42 => ?_)
            · replace hF := tt_of hb42 hF
              replace h := h.sub [0, 1, 2, 3, 4, 5, 6] (by rfl)
              change SatL c [.slot 0 (slVP S_law04_Ask.ck a_0), .slot 7 (slVP S_law04_Ask.ck a_0), .slot 8 (intVP .i64 (a_0.length : Int)), .slot 9 (intVP .i64 x14), .slot 23 (slVP strC ((a_0.getD x14.toNat default).f_Parts)), .slot 24 (intVP .i64 (((a_0.getD x14.toNat default).f_Parts).length : Int)), .slot 25 (intVP .i64 x37)] a w at h
              refine wp_skip ?_
              show Code.wp Tryd.prog _ _ a w
              refine wp_seq ?_
              refine wp_block ?_
              refine wp_seq ?_
              obtain ⟨hv43, hF⟩ := ite_some hF
              refine region_do (n := 34) [.slot 27 100000 100000 (fun _ _ => (ppVP [one (strVP (((a_0.getD x14.toNat default).f_Parts).getD x37.toNat default))])),
      .slot 28 100000 100000 (fun _ _ => (strVP (((a_0.getD x14.toNat default).f_Parts).getD x37.toNat default))),
      .slot 6 100000 100000 (fun _ _ => (strVP (((a_0.getD x14.toNat default).f_Parts).getD x37.toNat default)))] [0, 1, 2] [⟨[4, 6], [], [7], [], some 27⟩, ⟨[7], [], [8], [0], some 28⟩, ⟨[8], [], [9], [0, 1], some 6⟩] [0, 9, 1, 2, 3, 4, 5, 6] mixed hn hG h (by kernel_rfl) ?_ ?_
              · exact ⟨⟨rfl, fun β => (GOk.plain (op_indexAddr_sl Tryd.underlying22 Tryd.sizeOf9 lens_strC (opt 0 rfl) (opt 1 rfl) hv43) rfl)⟩, ⟨rfl, fun β => (GOk.plain (op_load_pp1 [] Tryd.isAgg9 (opt 0 rfl)) rfl)⟩, ⟨rfl, fun β => (GOk.plain (op_assign (opt 0 rfl)) rfl)⟩, trivial⟩
              clear h
              intro β a w h
              change SatL c [.slot 0 (slVP S_law04_Ask.ck a_0), .slot 6 (strVP (((a_0.getD x14.toNat default).f_Parts).getD x37.toNat default)), .slot 7 (slVP S_law04_Ask.ck a_0), .slot 8 (intVP .i64 (a_0.length : Int)), .slot 9 (intVP .i64 x14), .slot 23 (slVP strC ((a_0.getD x14.toNat default).f_Parts)), .slot 24 (intVP .i64 (((a_0.getD x14.toNat default).f_Parts).length : Int)), .slot 25 (intVP .i64 x37)] a w at h
              clear β
              show Code.wp Tryd.prog _ _ a w
              refine wp_seq ?_
              refine region_do (n := 34) [.slot 29 100000 100000 (fun _ _ => (strVP (((a_0.getD x14.toNat default).f_Parts).getD x37.toNat default))),
      .slot 30 100000 100000 (fun _ _ => (intVP .i64 ((((a_0.getD x14.toNat default).f_Parts).getD x37.toNat default).length : Int))),
      .slot 31 100000 100000 (fun _ _ => (boolVP (decide ((1000 : Int) < ((((a_0.getD x14.toNat default).f_Parts).getD x37.toNat default).length : Int)))))] [0, 1, 2] [⟨[1], [], [8], [], some 29⟩, ⟨[8], [], [9], [0], some 30⟩, ⟨[9], [], [10], [0, 1], some 31⟩] [0, 2, 3, 4, 5, 6, 7, 10] mixed hn hG h (by kernel_rfl) ?_ ?_
              · exact ⟨⟨rfl, fun β => (GOk.plain (op_move (opt 0 rfl)) rfl)⟩, ⟨rfl, fun β => (GOk.plain (op_len_str Tryd.underlying9 (opt 0 rfl)) rfl)⟩, ⟨rfl, fun β => (GOk.plain (op_bin bin_gtr (opt 0 rfl) (opc (ic (by decide)))) rfl)⟩, trivial⟩
              clear h
              intro β a w h
              change SatL c [.slot 0 (slVP S_law04_Ask.ck a_0), .slot 7 (slVP S_law04_Ask.ck a_0), .slot 8 (intVP .i64 (a_0.length : Int)), .slot 9 (intVP .i64 x14), .slot 23 (slVP strC ((a_0.getD x14.toNat default).f_Parts)), .slot 24 (intVP .i64 (((a_0.getD x14.toNat default).f_Parts).length : Int)), .slot 25 (intVP .i64 x37), .slot 31 (boolVP (decide ((1000 : Int) < ((((a_0.getD x14.toNat default).f_Parts).getD x37.toNat default).length : Int))))] a w at h
              clear β
              show Code.wp Tryd.prog _ _ a w
              refine cond_L h 7 rfl (fun hb44 => ?_) (fun hb44 => ?_)
              · replace hF := tt_of hb44 hF
                replace h := h.sub [] (by rfl)
                change SatL c [] a w at h
                refine wp_seq ?_
                refine region_do (n := 34) [.slot 2 100000 100000 (fun _ _ => (boolVP false))] [0] [⟨[], [], [0], [], some 2⟩] [0] mixed hn hG h (by kernel_rfl) ?_ ?_
                · exact ⟨⟨rfl, fun β => (GOk.plain (op_assign (opc (bc _))) rfl)⟩, trivial⟩
                clear h
                intro β a w h
                change SatL c [.slot 2 (boolVP false)] a w at h
                clear β
                show Code.wp Tryd.prog _ _ a w
                refine wp_ret ?_
                obtain rfl := Option.some.inj hF
                exact ⟨ret_ne, rfl, ret1 h Tryd.results12 (r_tmp 0 rfl) [] [] rfl rfl rfl⟩
              · replace hF := ff_of hb44 hF
                replace h := h.sub [0, 1, 2, 3, 4, 5, 6] (by rfl)
                change SatL c [.slot 0 (slVP S_law04_Ask.ck a_0), .slot 7 (slVP S_law04_Ask.ck a_0), .slot 8 (intVP .i64 (a_0.length : Int)), .slot 9 (intVP .i64 x14), .slot 23 (slVP strC ((a_0.getD x14.toNat default).f_Parts)), .slot 24 (intVP .i64 (((a_0.getD x14.toNat default).f_Parts).length : Int)), .slot 25 (intVP .i64 x37)] a w at h
                refine wp_skip ?_
                show Code.wp Tryd.prog _ _ a w
                refine region_do (n := 34) [.slot 32 100000 100000 (fun _ _ => (intVP .i64 (IntKind.wrap .i64 (x37 + 1)))),
      .slot 25 100000 100000 (fun _ _ => (intVP .i64 (IntKind.wrap .i64 (x37 + 1))))] [0, 1] [⟨[6], [], [7], [], some 32⟩, ⟨[7], [6], [8], [0], some 25⟩] [0, 1, 2, 3, 4, 5, 8] mixed hn hG h (by kernel_rfl) ?_ ?_
                · exact ⟨⟨rfl, fun β => (GOk.plain (op_bin bin_add (opt 0 rfl) (opc (ic (by decide)))) rfl)⟩, ⟨rfl, fun β => (GOk.drop _ (GOk.plain (op_move (opt 0 rfl)) rfl))⟩, trivial⟩
                clear h
                intro β a w h
                change SatL c [.slot 0 (slVP S_law04_Ask.ck a_0), .slot 7 (slVP S_law04_Ask.ck a_0), .slot 8 (intVP .i64 (a_0.length : Int)), .slot 9 (intVP .i64 x14), .slot 23 (slVP strC ((a_0.getD x14.toNat default).f_Parts)), .slot 24 (intVP .i64 (((a_0.getD x14.toNat default).f_Parts).length : Int)), .slot 25 (intVP .i64 (IntKind.wrap .i64 (x37 + 1)))] a w at h
                clear β
                obtain rfl := Option.some.inj hF
                exact ⟨rfl, h.sub [0, 1, 2, 3, 4, 5, 6] (by rfl)⟩
            · replace hF := ff_of hb42 hF
              replace h := h.sub [0, 1, 2, 3, 4, 5, 6] (by rfl)
              change SatL c [.slot 0 (slVP S_law04_Ask.ck a_0), .slot 7 (slVP S_law04_Ask.ck a_0), .slot 8 (intVP .i64 (a_0.length : Int)), .slot 9 (intVP .i64 x14), .slot 23 (slVP strC ((a_0.getD x14.toNat default).f_Parts)), .slot 24 (intVP .i64 (((a_0.getD x14.toNat default).f_Parts).length : Int)), .slot 25 (intVP .i64 x37)] a w at h
              refine wp_exit ?_
              obtain rfl := Option.some.inj hF
              exact ⟨exit_ne _, rfl, h.sub [0, 1, 2, 3] (by rfl)⟩
          · clear hl46
            intro e a w hq
            cases cr45 with
            | ret r47 =>
              obtain ⟨rfl, hq⟩ := hq
              obtain rfl := Option.some.inj hF
              exact ⟨ret_ne, rfl, hq⟩
            | next y49 =>
              obtain ⟨rfl, h⟩ := hq
              change SatL c [.slot 0 (slVP S_law04_Ask.ck a_0), .slot 7 (slVP S_law04_Ask.ck a_0), .slot 8 (intVP .i64 (a_0.length : Int)), .slot 9 (intVP .i64 x14)] a w at h
              refine inBlock_at ?_
              show Code.wp Tryd.prog _ _ a w
              refine region_do (n := 34) [.slot 33 100000 100000 (fun _ _ => (intVP .i64 (IntKind.wrap .i64 (x14 + 1)))),
      .slot 9 100000 100000 (fun _ _ => (intVP .i64 (IntKind.wrap .i64 (x14 + 1))))] [0, 1] [⟨[3], [], [4], [], some 33⟩, ⟨[4], [3], [5], [0], some 9⟩] [0, 1, 2, 5] mixed hn hG h (by kernel_rfl) ?_ ?_
              · exact ⟨⟨rfl, fun β => (GOk.plain (op_bin bin_add (opt 0 rfl) (opc (ic (by decide)))) rfl)⟩, ⟨rfl, fun β => (GOk.drop _ (GOk.plain (op_move (opt 0 rfl)) rfl))⟩, trivial⟩
              clear h
              intro β a w h
              change SatL c [.slot 0 (slVP S_law04_Ask.ck a_0), .slot 7 (slVP S_law04_Ask.ck a_0), .slot 8 (intVP .i64 (a_0.length : Int)), .slot 9 (intVP .i64 (IntKind.wrap .i64 (x14 + 1)))] a w at h
              clear β
              obtain rfl := Option.some.inj hF
              exact ⟨rfl, h.sub [0, 1, 2, 3] (by rfl)⟩
    · replace hF := ff_of hb29 hF
      replace h := h.sub [0, 1, 2, 3] (by rfl)
      change SatL c [.slot 0 (slVP S_law04_Ask.ck a_0), .slot 7 (slVP S_law04_Ask.ck a_0), .slot 8 (intVP .i64 (a_0.length : Int)), .slot 9 (intVP .i64 x14)] a w at h
      refine wp_exit ?_
      obtain rfl := Option.some.inj hF
      exact ⟨exit_ne _, rfl, h.sub [] (by rfl)⟩
  · clear hl52
    intro e a w hq
    cases cr51 with
    | ret r53 =>
      obtain ⟨rfl, hq⟩ := hq
      obtain rfl := Option.some.inj hF
      exact ⟨.inl rfl, hq⟩
    | next y55 =>
      obtain ⟨rfl, h⟩ := hq
      change SatL c [] a w at h
      refine inBlock_at ?_
      show Code.wp Tryd.prog _ _ a w
      refine wp_seq ?_
      refine region_do (n := 34) [.slot 2 100000 100000 (fun _ _ => (boolVP true))] [0] [⟨[], [], [0], [], some 2⟩] [0] mixed hn hG h (by kernel_rfl) ?_ ?_
      · exact ⟨⟨rfl, fun β => (GOk.plain (op_assign (opc (bc _))) rfl)⟩, trivial⟩
      clear h
      intro β a w h
      change SatL c [.slot 2 (boolVP true)] a w at h
      clear β
      show Code.wp Tryd.prog _ _ a w
      refine wp_ret ?_
      obtain rfl := Option.some.inj hF
      exact ⟨.inl rfl, ret1 h Tryd.results12 (r_tmp 0 rfl) [] [] rfl rfl rfl⟩

def law04_DigestInputs.j2 (a_0 : S_law04_Ask) (a_1 : S_law04_Ask) (x19 : Bool) (x20 : Int) (x27 : Bool) : Option (Flow Bool (Bool × Int)) := (if x27 = true then (if (0 : Int) ≤ x20 ∧ x20 < a_0.f_Parts.length then (if (0 : Int) ≤ x20 ∧ x20 < a_1.f_Parts.length then some (.cont (decide ((a_0.f_Parts.getD x20.toNat default) = (a_1.f_Parts.getD x20.toNat default)), IntKind.wrap .i64 (x20 + 1))) else none) else none) else some (.brk (x19, x20)))
def law04_DigestInputs.b1 (a_0 : S_law04_Ask) (a_1 : S_law04_Ask) (x19 : Bool) (x20 : Int) : Option (Flow Bool (Bool × Int)) := (if x19 = true then law04_DigestInputs.j2 a_0 a_1 x19 x20 (decide (x20 < (a_0.f_Parts.length : Int))) else law04_DigestInputs.j2 a_0 a_1 x19 x20 false)
def law04_DigestInputs.j3 (x42 : Bool) : Option Bool := some x42
def law04_DigestInputs.j1 (a_0 : S_law04_Ask) (a_1 : S_law04_Ask) (r10 : (List UInt8) × (Option O_Log)) (r11 : (List UInt8) × (Option O_Log)) (x14 : Bool) : Option Bool := ((loopN (fun s : Bool × Int => law04_DigestInputs.b1 a_0 a_1 s.1 s.2) 100000 (x14, 0)).bind fun cr => match cr with | .ret r => some r | .next (y36, y37) => ((law04_awake).bind fun r38 => (if r38 = true then ((digest_Log_Count r11.2).bind fun r39 => (if ((decide (r39 = (1 : Int))) == y36) = true then (if (!y36) = true then ((digest_Log_Clash r11.2).bind fun r40 => law04_DigestInputs.j3 (r40 == (decide (r10.1 = r11.1)))) else (if (decide (r10.1 = r11.1)) = true then ((digest_Log_Clash r11.2).bind fun r41 => law04_DigestInputs.j3 (r41 == false)) else law04_DigestInputs.j3 false)) else law04_DigestInputs.j3 false)) else law04_DigestInputs.j3 false)))
def law04_DigestInputs (a_0 : S_law04_Ask) (a_1 : S_law04_Ask) : Option Bool := ((law04_awake).bind fun r3 => (if (!r3) = true then some false else ((law04_light [a_0, a_1]).bind fun r5 => (if (!r5) = true then ((law04_awake).bind fun r7 => some r7) else ((digest_New).bind fun r8 => ((digest_Log_Of (some r8) a_0.f_Domain a_0.f_Parts).bind fun r10 => ((digest_Log_Of r10.2 a_1.f_Domain a_1.f_Parts).bind fun r11 => (if (decide (a_0.f_Domain = a_1.f_Domain)) = true then law04_DigestInputs.j1 a_0 a_1 r10 r11 (decide ((a_0.f_Parts.length : Int) = (a_1.f_Parts.length : Int))) else law04_DigestInputs.j1 a_0 a_1 r10 r11 false))))))))
theorem law04_DigestInputs_ok {a_0 : S_law04_Ask} {a_1 : S_law04_Ask} {r : Bool} (hF : law04_DigestInputs a_0 a_1 = some r) : CallOk Tryd.prog KG 3 [(aggVP [one (intVP .u8 a_0.f_Domain), one (slVP strC a_0.f_Parts), one (boolVP a_0.f_Two), bytesCk 32 a_0.f_A, bytesCk 32 a_0.f_B]), (aggVP [one (intVP .u8 a_1.f_Domain), one (slVP strC a_1.f_Parts), one (boolVP a_1.f_Two), bytesCk 32 a_1.f_A, bytesCk 32 a_1.f_B])] [] (fun _ => []) (boolVP r) := by
  refine CallOk.intro 95 Tryd.func3 rfl Tryd.ntmps3 (Nat.le_of_ble_eq_true rfl) ?_
  intro c a w hG hn h
  unfold law04_DigestInputs at hF
  change SatL c [.slot 0 (aggVP [one (intVP .u8 a_0.f_Domain), one (slVP strC a_0.f_Parts), one (boolVP a_0.f_Two), bytesCk 32 a_0.f_A, bytesCk 32 a_0.f_B]), .slot 1 (aggVP [one (intVP .u8 a_1.f_Domain), one (slVP strC a_1.f_Parts), one (boolVP a_1.f_Two), bytesCk 32 a_1.f_A, bytesCk 32 a_1.f_B])] a w at h
  refine wp_seq ?_
  refine region_do (n := 95) [.slot 2 0 100000 (fun v1_ _ => (lpVP v1_ 0)),
      .res 0 100000 (fun v1_ _ => (lb (v1_) 26 [one (intVP .u8 a_0.f_Domain), one (slVP strC a_0.f_Parts), one (boolVP a_0.f_Two), bytesCk 32 a_0.f_A, bytesCk 32 a_0.f_B])),
      .slot 3 1 100000 (fun v1_ _ => (lpVP v1_ 0)),
      .res 1 100000 (fun v1_ _ => (lb (v1_) 26 [one (intVP .u8 a_1.f_Domain), one (slVP strC a_1.f_Parts), one (boolVP a_1.f_Two), bytesCk 32 a_1.f_A, bytesCk 32 a_1.f_B])),
      .slot 4 100000 100000 (fun _ _ => (boolVP false))] [0, 0, 1, 1, 2] [⟨[0], [], [2, 3], [], some 2⟩, ⟨[1], [], [4, 5], [0], some 3⟩, ⟨[], [], [6], [0, 1], some 4⟩] [2, 4, 3, 5] mixed hn hG h (by kernel_rfl) ?_ ?_
  · exact ⟨⟨rfl, fun β => (GOk.plain (op_box (opt 0 rfl) (cells_agg _)) rfl)⟩, ⟨rfl, fun β => (GOk.plain (op_box (opt 0 rfl) (cells_agg _)) rfl)⟩, ⟨rfl, fun β => (GOk.plain (op_assign (opc (bc _))) rfl)⟩, trivial⟩
  clear h
  intro β a w h
  change SatL c [.slot 2 (lpVP (β 0) 0), .slot 3 (lpVP (β 1) 0), .res (lb (β 0) 26 [one (intVP .u8 a_0.f_Domain), one (slVP strC a_0.f_Parts), one (boolVP a_0.f_Two), bytesCk 32 a_0.f_A, bytesCk 32 a_0.f_B]), .res (lb (β 1) 26 [one (intVP .u8 a_1.f_Domain), one (slVP strC a_1.f_Parts), one (boolVP a_1.f_Two), bytesCk 32 a_1.f_A, bytesCk 32 a_1.f_B])] a w at h
  generalize β 0 = p1 at h
  generalize β 1 = p2 at h
  clear β
  show Code.wp Tryd.prog _ _ a w
  refine wp_seq ?_
  refine wp_seq ?_
  obtain ⟨r3, hr3, hF⟩ := bind_some hF
  refine region_do (n := 95) [.slot 10 100000 100000 (fun _ _ => (boolVP r3)),
      .slot 11 100000 100000 (fun _ _ => (boolVP (!r3)))] [0, 1] [⟨[], [], [4], [], some 10⟩, ⟨[4], [], [5], [0], some 11⟩] [0, 1, 5, 2, 3] mixed hn hG h (by kernel_rfl) ?_ ?_
  · exact ⟨⟨rfl, fun β => (GOk.plain (op_call Tryd.call11 (law04_awake_ok hr3) trivial) rfl)⟩, ⟨rfl, fun β => (GOk.plain (op_un (un_not _) (opt 0 rfl)) rfl)⟩, trivial⟩
  clear h
  intro β a w h
  change SatL c [.slot 2 (lpVP p1 0), .slot 3 (lpVP p2 0), .slot 11 (boolVP (!r3)), .res (lb p1 26 [one (intVP .u8 a_0.f_Domain), one (slVP strC a_0.f_Parts), one (boolVP a_0.f_Two), bytesCk 32 a_0.f_A, bytesCk 32 a_0.f_B]), .res (lb p2 26 [one (intVP .u8 a_1.f_Domain), one (slVP strC a_1.f_Parts), one (boolVP a_1.f_Two), bytesCk 32 a_1.f_A, bytesCk 32 a_1.f_B])] a w at h
  clear β
  show Code.wp Tryd.prog _ _ a w
  refine cond_L h 2 rfl (fun hb4 => ?_) (fun hb4 => ?_)
  · replace hF := tt_of hb4 hF
    replace h := h.sub [] (by rfl)
    change SatL c [] a w at h
    refine wp_seq ?_
    refine region_do (n := 95) [.slot 4 100000 100000 (fun _ _ => (boolVP false))] [0] [⟨[], [], [0], [], some 4⟩] [0] mixed hn hG h (by kernel_rfl) ?_ ?_
    · exact ⟨⟨rfl, fun β => (GOk.plain (op_assign (opc (bc _))) rfl)⟩, trivial⟩
    clear h
    intro β a w h
    change SatL c [.slot 4 (boolVP false)] a w at h
    clear β
    show Code.wp Tryd.prog _ _ a w
    refine wp_ret ?_
    obtain rfl := Option.some.inj hF
    exact ⟨.inl rfl, ret1 h Tryd.results3 (r_tmp 0 rfl) [] [] rfl rfl rfl⟩
  · replace hF := ff_of hb4 hF
    replace h := h.sub [0, 1, 3, 4] (by rfl)
    change SatL c [.slot 2 (lpVP p1 0), .slot 3 (lpVP p2 0), .res (lb p1 26 [one (intVP .u8 a_0.f_Domain), one (slVP strC a_0.f_Parts), one (boolVP a_0.f_Two), bytesCk 32 a_0.f_A, bytesCk 32 a_0.f_B]), .res (lb p2 26 [one (intVP .u8 a_1.f_Domain), one (slVP strC a_1.f_Parts), one (boolVP a_1.f_Two), bytesCk 32 a_1.f_A, bytesCk 32 a_1.f_B])] a w at h
    refine wp_skip ?_
    show Code.wp Tryd.prog _ _ a w
    refine wp_seq ?_
    refine wp_seq ?_
    obtain ⟨r5, hr5, hF⟩ := bind_some hF
    refine region_do (n := 95) [.slot 12 100000 100000 (fun _ _ => (aggVP [one (intVP .u8 a_0.f_Domain), one (slVP strC a_0.f_Parts), one (boolVP a_0.f_Two), bytesCk 32 a_0.f_A, bytesCk 32 a_0.f_B])),
      .slot 13 100000 100000 (fun _ _ => (aggVP [one (intVP .u8 a_1.f_Domain), one (slVP strC a_1.f_Parts), one (boolVP a_1.f_Two), bytesCk 32 a_1.f_A, bytesCk 32 a_1.f_B])),
      .slot 14 100000 100000 (fun _ _ => (slVP S_law04_Ask.ck [a_0, a_1])),
      .slot 15 100000 100000 (fun _ _ => (boolVP r5)),
      .slot 16 100000 100000 (fun _ _ => (boolVP (!r5)))] [0, 1, 2, 3, 4] [⟨[0, 2], [], [4], [], some 12⟩, ⟨[1, 3], [], [5], [0], some 13⟩, ⟨[4, 5], [], [6], [0, 1], some 14⟩, ⟨[6], [], [7], [0, 1, 2], some 15⟩, ⟨[7], [], [8], [0, 1, 2, 3], some 16⟩] [0, 1, 8, 2, 3] mixed hn hG h (by kernel_rfl) ?_ ?_
    · exact ⟨⟨rfl, fun β => (GOk.plain (op_load_lb [] [one (intVP .u8 a_0.f_Domain), one (slVP strC a_0.f_Parts), one (boolVP a_0.f_Two), bytesCk 32 a_0.f_A, bytesCk 32 a_0.f_B] [] 1 Tryd.isAgg26 Tryd.sizeOf26 (opt 0 rfl) rfl rfl rfl) rfl)⟩, ⟨rfl, fun β => (GOk.plain (op_load_lb [] [one (intVP .u8 a_1.f_Domain), one (slVP strC a_1.f_Parts), one (boolVP a_1.f_Two), bytesCk 32 a_1.f_A, bytesCk 32 a_1.f_B] [] 1 Tryd.isAgg26 Tryd.sizeOf26 (opt 0 rfl) rfl rfl rfl) rfl)⟩, ⟨rfl, fun β => (GOk.plain (op_lit (xs := [.tmp 12, .tmp 13]) (ys := [a_0, a_1]) _ rfl Tryd.underlying29 Tryd.sizeOf26 Tryd.zeroValue26 rfl rfl (by decide) (by decide) ⟨⟨_, (opt 0 rfl), (cells_agg _)⟩, ⟨_, (opt 1 rfl), (cells_agg _)⟩, trivial⟩ S_law04_Ask.lens) rfl)⟩, ⟨rfl, fun β => (GOk.plain (op_call Tryd.call12 (law04_light_ok hr5) ⟨(opt 0 rfl), trivial⟩) rfl)⟩, ⟨rfl, fun β => (GOk.plain (op_un (un_not _) (opt 0 rfl)) rfl)⟩, trivial⟩
    clear h
    intro β a w h
    change SatL c [.slot 2 (lpVP p1 0), .slot 3 (lpVP p2 0), .slot 16 (boolVP (!r5)), .res (lb p1 26 [one (intVP .u8 a_0.f_Domain), one (slVP strC a_0.f_Parts), one (boolVP a_0.f_Two), bytesCk 32 a_0.f_A, bytesCk 32 a_0.f_B]), .res (lb p2 26 [one (intVP .u8 a_1.f_Domain), one (slVP strC a_1.f_Parts), one (boolVP a_1.f_Two), bytesCk 32 a_1.f_A, bytesCk 32 a_1.f_B])] a w at h
    clear β
    show Code.wp Tryd.prog _ _ a w
    refine cond_L h 2 rfl (fun hb6 => ?_) (fun hb6 => ?_)
    · replace hF := tt_of hb6 hF
      replace h := h.sub [] (by rfl)
      change SatL c [] a w at h
      refine wp_seq ?_
      obtain ⟨r7, hr7, hF⟩ := bind_some hF
      refine region_do (n := 95) [.slot 17 100000 100000 (fun _ _ => (boolVP r7)),
      .slot 4 100000 100000 (fun _ _ => (boolVP r7))] [0, 1] [⟨[], [], [0], [], some 17⟩, ⟨[0], [], [1], [0], some 4⟩] [1] mixed hn hG h (by kernel_rfl) ?_ ?_
      · exact ⟨⟨rfl, fun β => (GOk.plain (op_call Tryd.call11 (law04_awake_ok hr7) trivial) rfl)⟩, ⟨rfl, fun β => (GOk.plain (op_assign (opt 0 rfl)) rfl)⟩, trivial⟩
      clear h
      intro β a w h
      change SatL c [.slot 4 (boolVP r7)] a w at h
      clear β
      show Code.wp Tryd.prog _ _ a w
      refine wp_ret ?_
      obtain rfl := Option.some.inj hF
      exact ⟨.inl rfl, ret1 h Tryd.results3 (r_tmp 0 rfl) [] [] rfl rfl rfl⟩
    · replace hF := ff_of hb6 hF
      replace h := h.sub [0, 1, 3, 4] (by rfl)
      change SatL c [.slot 2 (lpVP p1 0), .slot 3 (lpVP p2 0), .res (lb p1 26 [one (intVP .u8 a_0.f_Domain), one (slVP strC a_0.f_Parts), one (boolVP a_0.f_Two), bytesCk 32 a_0.f_A, bytesCk 32 a_0.f_B]), .res (lb p2 26 [one (intVP .u8 a_1.f_Domain), one (slVP strC a_1.f_Parts), one (boolVP a_1.f_Two), bytesCk 32 a_1.f_A, bytesCk 32 a_1.f_B])] a w at h
      refine wp_skip ?_
      show Code.wp Tryd.prog _ _ a w
      refine wp_seq ?_
      obtain ⟨r8, hr8, hF⟩ := bind_some hF
      refine region_do (n := 95) [.slot 18 0 100000 (fun v1_ _ => (eqVP v1_)),
      .res 0 100000 (fun v1_ _ => (Log_e (v1_) (some r8))),
      .slot 5 0 100000 (fun v1_ _ => (eqVP v1_))] [0, 0, 1] [⟨[], [], [4, 5], [], some 18⟩, ⟨[4], [], [6], [0], some 5⟩] [0, 1, 6, 2, 3, 5] mixed hn hG h (by kernel_rfl) ?_ ?_
      · exact ⟨⟨rfl, fun β => (GOk.plain (op_callv Tryd.call13 (digest_New_ok hr8) trivial) rfl)⟩, ⟨rfl, fun β => (GOk.plain (op_assign (V := (eqVP (β 0))) (opt 0 rfl)) rfl)⟩, trivial⟩
      clear h
      intro β a w h
      change SatL c [.slot 2 (lpVP p1 0), .slot 3 (lpVP p2 0), .slot 5 (eqVP (β 0)), .res (lb p1 26 [one (intVP .u8 a_0.f_Domain), one (slVP strC a_0.f_Parts), one (boolVP a_0.f_Two), bytesCk 32 a_0.f_A, bytesCk 32 a_0.f_B]), .res (lb p2 26 [one (intVP .u8 a_1.f_Domain), one (slVP strC a_1.f_Parts), one (boolVP a_1.f_Two), bytesCk 32 a_1.f_A, bytesCk 32 a_1.f_B]), .res (Log_e (β 0) (some r8))] a w at h
      generalize β 0 = p9 at h
      clear β
      show Code.wp Tryd.prog _ _ a w
      refine wp_seq ?_
      obtain ⟨r10, hr10, hF⟩ := bind_some hF
      obtain ⟨r11, hr11, hF⟩ := bind_some hF
      refine region_do (n := 95) [.slot 19 100000 100000 (fun _ _ => (eqVP p9)),
      .slot 20 100000 100000 (fun _ _ => (lpVP p1 0)),
      .slot 21 100000 100000 (fun _ _ => (intVP .u8 a_0.f_Domain)),
      .slot 22 100000 100000 (fun _ _ => (lpVP p1 1)),
      .slot 23 100000 100000 (fun _ _ => (slVP strC a_0.f_Parts)),
      .slot 24 100000 100000 (fun _ _ => (aggVP [bytesCk 32 r10.1])),
      .res 100000 100000 (fun _ _ => (Log_e p9 r10.2)),
      .slot 25 100000 100000 (fun _ _ => (eqVP p9)),
      .slot 26 100000 100000 (fun _ _ => (lpVP p2 0)),
      .slot 27 100000 100000 (fun _ _ => (intVP .u8 a_1.f_Domain)),
      .slot 28 100000 100000 (fun _ _ => (lpVP p2 1)),
      .slot 29 100000 100000 (fun _ _ => (slVP strC a_1.f_Parts)),
      .slot 30 100000 100000 (fun _ _ => (aggVP [bytesCk 32 r11.1])),
      .res 100000 100000 (fun _ _ => (Log_e p9 r11.2)),
      .slot 6 12 100000 (fun v1_ _ => (lpVP v1_ 0)),
      .res 12 100000 (fun v1_ _ => (lb (v1_) 24 [bytesCk 32 (List.replicate 32 0)])),
      .slot 7 13 100000 (fun v1_ _ => (lpVP v1_ 0)),
      .res 13 100000 (fun v1_ _ => (lb (v1_) 24 [bytesCk 32 (List.replicate 32 0)])),
      .res 12 100000 (fun v1_ _ => (lb (v1_) 24 [bytesCk 32 r10.1])),
      .res 13 100000 (fun v1_ _ => (lb (v1_) 24 [bytesCk 32 r11.1]))] [0, 1, 2, 3, 4, 5, 5, 6, 7, 8, 9, 10, 11, 11, 12, 12, 13, 13, 14, 15] [⟨[2], [], [6], [], some 19⟩, ⟨[0], [], [7], [], some 20⟩, ⟨[7, 3], [], [8], [1], some 21⟩, ⟨[0], [], [9], [], some 22⟩, ⟨[9, 3], [], [10], [3], some 23⟩, ⟨[6, 8, 10], [5], [11, 12], [0, 1, 2, 3, 4], some 24⟩, ⟨[2], [], [13], [], some 25⟩, ⟨[1], [], [14], [], some 26⟩, ⟨[14, 4], [], [15], [7], some 27⟩, ⟨[1], [], [16], [], some 28⟩, ⟨[16, 4], [], [17], [9], some 29⟩, ⟨[13, 15, 17], [12], [18, 19], [0, 1, 2, 3, 4, 5, 6, 7, 8, 9, 10], some 30⟩, ⟨[], [], [20, 21], [], some 6⟩, ⟨[], [], [22, 23], [], some 7⟩, ⟨[20, 11], [21], [24], [0, 1, 2, 3, 4, 5, 6, 7, 8, 9, 10, 11, 12, 13], none⟩, ⟨[22, 18], [23], [25], [0, 1, 2, 3, 4, 5, 6, 7, 8, 9, 10, 11, 12, 13, 14], none⟩] [0, 1, 2, 20, 22, 3, 4, 19, 24, 25] mixed hn hG h (by kernel_rfl) ?_ ?_
      · exact ⟨⟨rfl, fun β => (GOk.plain (op_move (opt 0 rfl)) rfl)⟩, ⟨rfl, fun β => (GOk.plain (op_fieldAddr_lbm (p := p1) (n := 1) 0 0 Tryd.underlying26 rfl Tryd.sizeOf5 (by decide) (opt 0 rfl) rfl) rfl)⟩, ⟨rfl, fun β => (GOk.plain (op_load_lb1 [] [one (slVP strC a_0.f_Parts), one (boolVP a_0.f_Two), bytesCk 32 a_0.f_A, bytesCk 32 a_0.f_B] 1 Tryd.isAgg5 (opt 0 rfl) rfl rfl) rfl)⟩, ⟨rfl, fun β => (GOk.plain (op_fieldAddr_lbm (p := p1) (n := 1) 0 1 Tryd.underlying26 rfl Tryd.sizeOf22 (by decide) (opt 0 rfl) rfl) rfl)⟩, ⟨rfl, fun β => (GOk.plain (op_load_lb1 [one (intVP .u8 a_0.f_Domain)] [one (boolVP a_0.f_Two), bytesCk 32 a_0.f_A, bytesCk 32 a_0.f_B] 1 Tryd.isAgg22 (opt 0 rfl) rfl rfl) rfl)⟩, ⟨rfl, fun β => (GOk.plain (op_call Tryd.call14 (digest_Log_Of_ok hr10) ⟨(opt 0 rfl), (opt 1 rfl), (opt 2 rfl), trivial⟩) rfl)⟩, ⟨rfl, fun β => (GOk.plain (op_move (opt 0 rfl)) rfl)⟩, ⟨rfl, fun β => (GOk.plain (op_fieldAddr_lbm (p := p2) (n := 1) 0 0 Tryd.underlying26 rfl Tryd.sizeOf5 (by decide) (opt 0 rfl) rfl) rfl)⟩, ⟨rfl, fun β => (GOk.plain (op_load_lb1 [] [one (slVP strC a_1.f_Parts), one (boolVP a_1.f_Two), bytesCk 32 a_1.f_A, bytesCk 32 a_1.f_B] 1 Tryd.isAgg5 (opt 0 rfl) rfl rfl) rfl)⟩, ⟨rfl, fun β => (GOk.plain (op_fieldAddr_lbm (p := p2) (n := 1) 0 1 Tryd.underlying26 rfl Tryd.sizeOf22 (by decide) (opt 0 rfl) rfl) rfl)⟩, ⟨rfl, fun β => (GOk.plain (op_load_lb1 [one (intVP .u8 a_1.f_Domain)] [one (boolVP a_1.f_Two), bytesCk 32 a_1.f_A, bytesCk 32 a_1.f_B] 1 Tryd.isAgg22 (opt 0 rfl) rfl rfl) rfl)⟩, ⟨rfl, fun β => (GOk.plain (op_call Tryd.call14 (digest_Log_Of_ok hr11) ⟨(opt 0 rfl), (opt 1 rfl), (opt 2 rfl), trivial⟩) rfl)⟩, ⟨rfl, fun β => (GOk.plain (op_alloc Tryd.zeroValue24 z24) rfl)⟩, ⟨rfl, fun β => (GOk.plain (op_alloc Tryd.zeroValue24 z24) rfl)⟩, ⟨rfl, fun β => (GOk.plain (op_store_lb [] [bytesCk 32 (List.replicate 32 0)] [] [bytesCk 32 r10.1] Tryd.sizeOf24 (opt 0 rfl) (opt 1 rfl) (cells_agg _) rfl rfl rfl) rfl)⟩, ⟨rfl, fun β => (GOk.plain (op_store_lb [] [bytesCk 32 (List.replicate 32 0)] [] [bytesCk 32 r11.1] Tryd.sizeOf24 (opt 0 rfl) (opt 1 rfl) (cells_agg _) rfl rfl rfl) rfl)⟩, trivial⟩
      clear h
      intro β a w h
      change SatL c [.slot 2 (lpVP p1 0), .slot 3 (lpVP p2 0), .slot 5 (eqVP p9), .slot 6 (lpVP (β 12) 0), .slot 7 (lpVP (β 13) 0), .res (lb p1 26 [one (intVP .u8 a_0.f_Domain), one (slVP strC a_0.f_Parts), one (boolVP a_0.f_Two), bytesCk 32 a_0.f_A, bytesCk 32 a_0.f_B]), .res (lb p2 26 [one (intVP .u8 a_1.f_Domain), one (slVP strC a_1.f_Parts), one (boolVP a_1.f_Two), bytesCk 32 a_1.f_A, bytesCk 32 a_1.f_B]), .res (Log_e p9 r11.2), .res (lb (β 12) 24 [bytesCk 32 r10.1]), .res (lb (β 13) 24 [bytesCk 32 r11.1])] a w at h
      generalize β 12 = p12 at h
      generalize β 13 = p13 at h
      clear β
      show Code.wp Tryd.prog _ _ a w
      refine wp_seq ?_
      refine wp_cut (fun a w => ∃ (x14 : Bool), law04_DigestInputs.j1 a_0 a_1 r10 r11 x14 = some r ∧ SatL c [.slot 2 (lpVP p1 0), .slot 3 (lpVP p2 0), .slot 5 (eqVP p9), .slot 6 (lpVP p12 0), .slot 7 (lpVP p13 0), .slot 8 (boolVP x14), .res (lb p1 26 [one (intVP .u8 a_0.f_Domain), one (slVP strC a_0.f_Parts), one (boolVP a_0.f_Two), bytesCk 32 a_0.f_A, bytesCk 32 a_0.f_B]), .res (lb p2 26 [one (intVP .u8 a_1.f_Domain), one (slVP strC a_1.f_Parts), one (boolVP a_1.f_Two), bytesCk 32 a_1.f_A, bytesCk 32 a_1.f_B]), .res (Log_e p9 r11.2), .res (lb p12 24 [bytesCk 32 r10.1]), .res (lb p13 24 [bytesCk 32 r11.1])] a w) ?_ ?_
      · rcases Bool.eq_false_or_eq_true (decide (a_0.f_Domain = a_1.f_Domain)) with hb47 | hb47
        · replace hF := tt_of hb47 hF
          refine region_do (n := 95) [.slot 31 100000 100000 (fun _ _ => (lpVP p1 0)),
      .slot 32 100000 100000 (fun _ _ => (intVP .u8 a_0.f_Domain)),
      .slot 33 100000 100000 (fun _ _ => (lpVP p2 0)),
      .slot 34 100000 100000 (fun _ _ => (intVP .u8 a_1.f_Domain)),
      .slot 35 100000 100000 (fun _ _ => (boolVP (decide (a_0.f_Domain = a_1.f_Domain)))),
      .slot 36 100000 100000 (fun _ _ => (boolVP (decide (a_0.f_Domain = a_1.f_Domain)))),
      .slot 37 100000 100000 (fun _ _ => (lpVP p1 1)),
      .slot 38 100000 100000 (fun _ _ => (slVP strC a_0.f_Parts)),
      .slot 39 100000 100000 (fun _ _ => (intVP .i64 (a_0.f_Parts.length : Int))),
      .slot 40 100000 100000 (fun _ _ => (lpVP p2 1)),
      .slot 41 100000 100000 (fun _ _ => (slVP strC a_1.f_Parts)),
      .slot 42 100000 100000 (fun _ _ => (intVP .i64 (a_1.f_Parts.length : Int))),
      .slot 43 100000 100000 (fun _ _ => (boolVP (decide ((a_0.f_Parts.length : Int) = (a_1.f_Parts.length : Int))))),
      .slot 44 100000 100000 (fun _ _ => (boolVP (decide ((a_0.f_Parts.length : Int) = (a_1.f_Parts.length : Int))))),
      .slot 8 100000 100000 (fun _ _ => (boolVP (decide ((a_0.f_Parts.length : Int) = (a_1.f_Parts.length : Int)))))] [0, 1, 2, 3, 4, 5, 6, 7, 8, 9, 10, 11, 12, 13, 14] [⟨[0], [], [10], [], some 31⟩, ⟨[10, 5], [], [11], [0], some 32⟩, ⟨[1], [], [12], [0, 1], some 33⟩, ⟨[12, 6], [], [13], [0, 1, 2], some 34⟩, ⟨[11, 13], [], [14], [0, 1, 2, 3], some 35⟩, ⟨[14], [], [15], [0, 1, 2, 3, 4], some 36⟩, ⟨[15, 0], [], [16], [0, 1, 2, 3, 4, 5], some 37⟩, ⟨[15, 16, 5], [], [17], [0, 1, 2, 3, 4, 5, 6], some 38⟩, ⟨[15, 17], [], [18], [0, 1, 2, 3, 4, 5, 6, 7], some 39⟩, ⟨[15, 1], [], [19], [0, 1, 2, 3, 4, 5, 6, 7, 8], some 40⟩, ⟨[15, 19, 6], [], [20], [0, 1, 2, 3, 4, 5, 6, 7, 8, 9], some 41⟩, ⟨[15, 20], [], [21], [0, 1, 2, 3, 4, 5, 6, 7, 8, 9, 10], some 42⟩, ⟨[15, 18, 21], [], [22], [0, 1, 2, 3, 4, 5, 6, 7, 8, 9, 10, 11], some 43⟩, ⟨[15, 22], [], [23], [0, 1, 2, 3, 4, 5, 6, 7, 8, 9, 10, 11, 12], some 44⟩, ⟨[23], [], [24], [0, 1, 2, 3, 4, 5, 6, 7, 8, 9, 10, 11, 12, 13], some 8⟩] [0, 1, 2, 3, 4, 24, 5, 6, 7, 8, 9] mixed hn hG h (by kernel_rfl) ?_ ?_
          · exact ⟨⟨rfl, fun β => (GOk.plain (op_fieldAddr_lbm (p := p1) (n := 1) 0 0 Tryd.underlying26 rfl Tryd.sizeOf5 (by decide) (opt 0 rfl) rfl) rfl)⟩, ⟨rfl, fun β => (GOk.plain (op_load_lb1 [] [one (slVP strC a_0.f_Parts), one (boolVP a_0.f_Two), bytesCk 32 a_0.f_A, bytesCk 32 a_0.f_B] 1 Tryd.isAgg5 (opt 0 rfl) rfl rfl) rfl)⟩, ⟨rfl, fun β => (GOk.plain (op_fieldAddr_lbm (p := p2) (n := 1) 0 0 Tryd.underlying26 rfl Tryd.sizeOf5 (by decide) (opt 0 rfl) rfl) rfl)⟩, ⟨rfl, fun β => (GOk.plain (op_load_lb1 [] [one (slVP strC a_1.f_Parts), one (boolVP a_1.f_Two), bytesCk 32 a_1.f_A, bytesCk 32 a_1.f_B] 1 Tryd.isAgg5 (opt 0 rfl) rfl rfl) rfl)⟩, ⟨rfl, fun β => (GOk.plain (op_bin bin_eql (opt 0 rfl) (opt 1 rfl)) rfl)⟩, ⟨rfl, fun β => (GOk.plain (op_move (opt 0 rfl)) rfl)⟩, ⟨rfl, fun β => (GOk.on_eq hb47 rfl rfl rfl (op_fieldAddr_lbm (p := p1) (n := 1) 0 1 Tryd.underlying26 rfl Tryd.sizeOf22 (by decide) (opt 0 rfl) rfl))⟩, ⟨rfl, fun β => (GOk.on_eq hb47 rfl rfl rfl (op_load_lb1 [one (intVP .u8 a_0.f_Domain)] [one (boolVP a_0.f_Two), bytesCk 32 a_0.f_A, bytesCk 32 a_0.f_B] 1 Tryd.isAgg22 (opt 0 rfl) rfl rfl))⟩, ⟨rfl, fun β => (GOk.on_eq hb47 rfl rfl rfl (op_len_sl Tryd.underlying22 (opt 0 rfl)))⟩, ⟨rfl, fun β => (GOk.on_eq hb47 rfl rfl rfl (op_fieldAddr_lbm (p := p2) (n := 1) 0 1 Tryd.underlying26 rfl Tryd.sizeOf22 (by decide) (opt 0 rfl) rfl))⟩, ⟨rfl, fun β => (GOk.on_eq hb47 rfl rfl rfl (op_load_lb1 [one (intVP .u8 a_1.f_Domain)] [one (boolVP a_1.f_Two), bytesCk 32 a_1.f_A, bytesCk 32 a_1.f_B] 1 Tryd.isAgg22 (opt 0 rfl) rfl rfl))⟩, ⟨rfl, fun β => (GOk.on_eq hb47 rfl rfl rfl (op_len_sl Tryd.underlying22 (opt 0 rfl)))⟩, ⟨rfl, fun β => (GOk.on_eq hb47 rfl rfl rfl (op_bin bin_eql (opt 0 rfl) (opt 1 rfl)))⟩, ⟨rfl, fun β => (GOk.plain (op_pick_t hb47 (opt 0 rfl) (opt 1 rfl)) rfl)⟩, ⟨rfl, fun β => (GOk.plain (op_assign (opt 0 rfl)) rfl)⟩, trivial⟩
          clear h
          intro β a w h
          change SatL c [.slot 2 (lpVP p1 0), .slot 3 (lpVP p2 0), .slot 5 (eqVP p9), .slot 6 (lpVP p12 0), .slot 7 (lpVP p13 0), .slot 8 (boolVP (decide ((a_0.f_Parts.length : Int) = (a_1.f_Parts.length : Int)))), .res (lb p1 26 [one (intVP .u8 a_0.f_Domain), one (slVP strC a_0.f_Parts), one (boolVP a_0.f_Two), bytesCk 32 a_0.f_A, bytesCk 32 a_0.f_B]), .res (lb p2 26 [one (intVP .u8 a_1.f_Domain), one (slVP strC a_1.f_Parts), one (boolVP a_1.f_Two), bytesCk 32 a_1.f_A, bytesCk 32 a_1.f_B]), .res (Log_e p9 r11.2), .res (lb p12 24 [bytesCk 32 r10.1]), .res (lb p13 24 [bytesCk 32 r11.1])] a w at h
          clear β
          exact ⟨decide ((a_0.f_Parts.length : Int) = (a_1.f_Parts.length : Int)), hF, h.sub [0, 1, 2, 3, 4, 5, 6, 7, 8, 9, 10] (by rfl)⟩
        · replace hF := ff_of hb47 hF
          refine region_do (n := 95) [.slot 31 100000 100000 (fun _ _ => (lpVP p1 0)),
      .slot 32 100000 100000 (fun _ _ => (intVP .u8 a_0.f_Domain)),
      .slot 33 100000 100000 (fun _ _ => (lpVP p2 0)),
      .slot 34 100000 100000 (fun _ _ => (intVP .u8 a_1.f_Domain)),
      .slot 35 100000 100000 (fun _ _ => (boolVP (decide (a_0.f_Domain = a_1.f_Domain)))),
      .slot 36 100000 100000 (fun _ _ => (boolVP (decide (a_0.f_Domain = a_1.f_Domain)))),
      .slot 37 100000 100000 (fun _ _ => (eqVP undef)),
      .slot 38 100000 100000 (fun _ _ => (eqVP undef)),
      .slot 39 100000 100000 (fun _ _ => (eqVP undef)),
      .slot 40 100000 100000 (fun _ _ => (eqVP undef)),
      .slot 41 100000 100000 (fun _ _ => (eqVP undef)),
      .slot 42 100000 100000 (fun _ _ => (eqVP undef)),
      .slot 43 100000 100000 (fun _ _ => (eqVP undef)),
      .slot 44 100000 100000 (fun _ _ => (boolVP false)),
      .slot 8 100000 100000 (fun _ _ => (boolVP false))] [0, 1, 2, 3, 4, 5, 6, 7, 8, 9, 10, 11, 12, 13, 14] [⟨[0], [], [10], [], some 31⟩, ⟨[10, 5], [], [11], [0], some 32⟩, ⟨[1], [], [12], [0, 1], some 33⟩, ⟨[12, 6], [], [13], [0, 1, 2], some 34⟩, ⟨[11, 13], [], [14], [0, 1, 2, 3], some 35⟩, ⟨[14], [], [15], [0, 1, 2, 3, 4], some 36⟩, ⟨[15], [], [16], [0, 1, 2, 3, 4, 5], some 37⟩, ⟨[15], [], [17], [0, 1, 2, 3, 4, 5, 6], some 38⟩, ⟨[15], [], [18], [0, 1, 2, 3, 4, 5, 6, 7], some 39⟩, ⟨[15], [], [19], [0, 1, 2, 3, 4, 5, 6, 7, 8], some 40⟩, ⟨[15], [], [20], [0, 1, 2, 3, 4, 5, 6, 7, 8, 9], some 41⟩, ⟨[15], [], [21], [0, 1, 2, 3, 4, 5, 6, 7, 8, 9, 10], some 42⟩, ⟨[15], [], [22], [0, 1, 2, 3, 4, 5, 6, 7, 8, 9, 10, 11], some 43⟩, ⟨[15], [], [23], [0, 1, 2, 3, 4, 5, 6, 7, 8, 9, 10, 11, 12], some 44⟩, ⟨[23], [], [24], [0, 1, 2, 3, 4, 5, 6, 7, 8, 9, 10, 11, 12, 13], some 8⟩] [0, 1, 2, 3, 4, 24, 5, 6, 7, 8, 9] mixed hn hG h (by kernel_rfl) ?_ ?_
          · exact ⟨⟨rfl, fun β => (GOk.plain (op_fieldAddr_lbm (p := p1) (n := 1) 0 0 Tryd.underlying26 rfl Tryd.sizeOf5 (by decide) (opt 0 rfl) rfl) rfl)⟩, ⟨rfl, fun β => (GOk.plain (op_load_lb1 [] [one (slVP strC a_0.f_Parts), one (boolVP a_0.f_Two), bytesCk 32 a_0.f_A, bytesCk 32 a_0.f_B] 1 Tryd.isAgg5 (opt 0 rfl) rfl rfl) rfl)⟩, ⟨rfl, fun β => (GOk.plain (op_fieldAddr_lbm (p := p2) (n := 1) 0 0 Tryd.underlying26 rfl Tryd.sizeOf5 (by decide) (opt 0 rfl) rfl) rfl)⟩, ⟨rfl, fun β => (GOk.plain (op_load_lb1 [] [one (slVP strC a_1.f_Parts), one (boolVP a_1.f_Two), bytesCk 32 a_1.f_A, bytesCk 32 a_1.f_B] 1 Tryd.isAgg5 (opt 0 rfl) rfl rfl) rfl)⟩, ⟨rfl, fun β => (GOk.plain (op_bin bin_eql (opt 0 rfl) (opt 1 rfl)) rfl)⟩, ⟨rfl, fun β => (GOk.plain (op_move (opt 0 rfl)) rfl)⟩, ⟨rfl, fun β => (GOk.off_v (want := true) hb47 rfl rfl rfl rfl)⟩, ⟨rfl, fun β => (GOk.off_v (want := true) hb47 rfl rfl rfl rfl)⟩, ⟨rfl, fun β => (GOk.off_v (want := true) hb47 rfl rfl rfl rfl)⟩, ⟨rfl, fun β => (GOk.off_v (want := true) hb47 rfl rfl rfl rfl)⟩, ⟨rfl, fun β => (GOk.off_v (want := true) hb47 rfl rfl rfl rfl)⟩, ⟨rfl, fun β => (GOk.off_v (want := true) hb47 rfl rfl rfl rfl)⟩, ⟨rfl, fun β => (GOk.off_v (want := true) hb47 rfl rfl rfl rfl)⟩, ⟨rfl, fun β => (GOk.plain (op_pick_f hb47 (opt 0 rfl) (opc (bc _))) rfl)⟩, ⟨rfl, fun β => (GOk.plain (op_assign (opt 0 rfl)) rfl)⟩, trivial⟩
          clear h
          intro β a w h
          change SatL c [.slot 2 (lpVP p1 0), .slot 3 (lpVP p2 0), .slot 5 (eqVP p9), .slot 6 (lpVP p12 0), .slot 7 (lpVP p13 0), .slot 8 (boolVP false), .res (lb p1 26 [one (intVP .u8 a_0.f_Domain), one (slVP strC a_0.f_Parts), one (boolVP a_0.f_Two), bytesCk 32 a_0.f_A, bytesCk 32 a_0.f_B]), .res (lb p2 26 [one (intVP .u8 a_1.f_Domain), one (slVP strC a_1.f_Parts), one (boolVP a_1.f_Two), bytesCk 32 a_1.f_A, bytesCk 32 a_1.f_B]), .res (Log_e p9 r11.2), .res (lb p12 24 [bytesCk 32 r10.1]), .res (lb p13 24 [bytesCk 32 r11.1])] a w at h
          clear β
          exact ⟨false, hF, h.sub [0, 1, 2, 3, 4, 5, 6, 7, 8, 9, 10] (by rfl)⟩
      · clear h hF
        rintro a w ⟨x14, hF, h⟩
        unfold law04_DigestInputs.j1 at hF
        show Code.wp Tryd.prog _ _ a w
        refine wp_seq ?_
        refine wp_seq ?_
        refine region_do (n := 95) [.slot 9 100000 100000 (fun _ _ => (intVP .i64 0))] [0] [⟨[], [], [11], [], some 9⟩] [0, 1, 2, 3, 4, 5, 11, 6, 7, 8, 9, 10] mixed hn hG h (by kernel_rfl) ?_ ?_
        · exact ⟨⟨rfl, fun β => (GOk.plain (op_assign (opc (ic (by decide)))) rfl)⟩, trivial⟩
        clear h
        intro β a w h
        change SatL c [.slot 2 (lpVP p1 0), .slot 3 (lpVP p2 0), .slot 5 (eqVP p9), .slot 6 (lpVP p12 0), .slot 7 (lpVP p13 0), .slot 8 (boolVP x14), .slot 9 (intVP .i64 0), .res (lb p1 26 [one (intVP .u8 a_0.f_Domain), one (slVP strC a_0.f_Parts), one (boolVP a_0.f_Two), bytesCk 32 a_0.f_A, bytesCk 32 a_0.f_B]), .res (lb p2 26 [one (intVP .u8 a_1.f_Domain), one (slVP strC a_1.f_Parts), one (boolVP a_1.f_Two), bytesCk 32 a_1.f_A, bytesCk 32 a_1.f_B]), .res (Log_e p9 r11.2), .res (lb p12 24 [bytesCk 32 r10.1]), .res (lb p13 24 [bytesCk 32 r11.1])] a w at h
        clear β
        show Code.wp Tryd.prog _ _ a w
        refine wp_block ?_
        obtain ⟨cr32, hl33, hF⟩ := bind_some hF
        refine wp_mono (wp_loopN (R := Bool) (S := Bool × Int) (fun s a w => SatL c [.slot 2 (lpVP p1 0), .slot 3 (lpVP p2 0), .slot 5 (eqVP p9), .slot 6 (lpVP p12 0), .slot 7 (lpVP p13 0), .slot 8 (boolVP s.1), .slot 9 (intVP .i64 s.2), .res (lb p1 26 [one (intVP .u8 a_0.f_Domain), one (slVP strC a_0.f_Parts), one (boolVP a_0.f_Two), bytesCk 32 a_0.f_A, bytesCk 32 a_0.f_B]), .res (lb p2 26 [one (intVP .u8 a_1.f_Domain), one (slVP strC a_1.f_Parts), one (boolVP a_1.f_Two), bytesCk 32 a_1.f_A, bytesCk 32 a_1.f_B]), .res (Log_e p9 r11.2), .res (lb p12 24 [bytesCk 32 r10.1]), .res (lb p13 24 [bytesCk 32 r11.1])] a w) (fun res e a w => match res with | .next s => e = .exit 0 ∧ SatL c [.slot 5 (eqVP p9), .slot 6 (lpVP p12 0), .slot 7 (lpVP p13 0), .slot 8 (boolVP s.1), .res (Log_e p9 r11.2), .res (lb p12 24 [bytesCk 32 r10.1]), .res (lb p13 24 [bytesCk 32 r11.1])] a w | .ret r => e = .ret ∧ RetOk Tryd.prog Tryd.f3 c (boolVP r) (fun _ => []) a w) ?_ _ (x14, 0) _ _ _ (h.sub [0, 1, 2, 3, 4, 5, 6, 7, 8, 9, 10, 11] (by rfl)) hl33) ?_
        · clear hl33 hF h
          intro s a w o h hF
          obtain ⟨x19, x20⟩ := s
          change law04_DigestInputs.b1 a_0 a_1 x19 x20 = some o at hF
          unfold law04_DigestInputs.b1 at hF
          change SatL c [.slot 2 (lpVP p1 0), .slot 3 (lpVP p2 0), .slot 5 (eqVP p9), .slot 6 (lpVP p12 0), .slot 7 (lpVP p13 0), .slot 8 (boolVP x19), .slot 9 (intVP .i64 x20), .res (lb p1 26 [one (intVP .u8 a_0.f_Domain), one (slVP strC a_0.f_Parts), one (boolVP a_0.f_Two), bytesCk 32 a_0.f_A, bytesCk 32 a_0.f_B]), .res (lb p2 26 [one (intVP .u8 a_1.f_Domain), one (slVP strC a_1.f_Parts), one (boolVP a_1.f_Two), bytesCk 32 a_1.f_A, bytesCk 32 a_1.f_B]), .res (Log_e p9 r11.2), .res (lb p12 24 [bytesCk 32 r10.1]), .res (lb p13 24 [bytesCk 32 r11.1])] a w at h
          refine wp_seq ?_
          refine wp_seq ?_
          refine wp_cut (fun a w => ∃ (x27 : Bool), law04_DigestInputs.j2 a_0 a_1 x19 x20 x27 = some o ∧ SatL c [.slot 2 (lpVP p1 0), .slot 3 (lpVP p2 0), .slot 5 (eqVP p9), .slot 6 (lpVP p12 0), .slot 7 (lpVP p13 0), .slot 8 (boolVP x19), .slot 9 (intVP .i64 x20), .slot 52 (boolVP x27), .res (lb p1 26 [one (intVP .u8 a_0.f_Domain), one (slVP strC a_0.f_Parts), one (boolVP a_0.f_Two), bytesCk 32 a_0.f_A, bytesCk 32 a_0.f_B]), .res (lb p2 26 [one (intVP .u8 a_1.f_Domain), one (slVP strC a_1.f_Parts), one (boolVP a_1.f_Two), bytesCk 32 a_1.f_A, bytesCk 32 a_1.f_B]), .res (Log_e p9 r11.2), .res (lb p12 24 [bytesCk 32 r10.1]), .res (lb p13 24 [bytesCk 32 r11.1])] a w) ?_ ?_
          · rcases Bool.eq_false_or_eq_true x19 with hb31 | hb31
            · replace hF := tt_of hb31 hF
              refine region_do (n := 95) [.slot 45 100000 100000 (fun _ _ => (boolVP x19)),
      .slot 46 100000 100000 (fun _ _ => (boolVP x19)),
      .slot 47 100000 100000 (fun _ _ => (intVP .i64 x20)),
      .slot 48 100000 100000 (fun _ _ => (lpVP p1 1)),
      .slot 49 100000 100000 (fun _ _ => (slVP strC a_0.f_Parts)),
      .slot 50 100000 100000 (fun _ _ => (intVP .i64 (a_0.f_Parts.length : Int))),
      .slot 51 100000 100000 (fun _ _ => (boolVP (decide (x20 < (a_0.f_Parts.length : Int))))),
      .slot 52 100000 100000 (fun _ _ => (boolVP (decide (x20 < (a_0.f_Parts.length : Int)))))] [0, 1, 2, 3, 4, 5, 6, 7] [⟨[5], [], [12], [], some 45⟩, ⟨[12], [], [13], [0], some 46⟩, ⟨[13, 6], [], [14], [0, 1], some 47⟩, ⟨[13, 0], [], [15], [0, 1, 2], some 48⟩, ⟨[13, 15, 7], [], [16], [0, 1, 2, 3], some 49⟩, ⟨[13, 16], [], [17], [0, 1, 2, 3, 4], some 50⟩, ⟨[13, 14, 17], [], [18], [0, 1, 2, 3, 4, 5], some 51⟩, ⟨[13, 18], [], [19], [0, 1, 2, 3, 4, 5, 6], some 52⟩] [0, 1, 2, 3, 4, 5, 6, 19, 7, 8, 9, 10, 11] mixed hn hG h (by kernel_rfl) ?_ ?_
              · exact ⟨⟨rfl, fun β => (GOk.plain (op_move (opt 0 rfl)) rfl)⟩, ⟨rfl, fun β => (GOk.plain (op_move (opt 0 rfl)) rfl)⟩, ⟨rfl, fun β => (GOk.on_eq hb31 rfl rfl rfl (op_move (opt 0 rfl)))⟩, ⟨rfl, fun β => (GOk.on_eq hb31 rfl rfl rfl (op_fieldAddr_lbm (p := p1) (n := 1) 0 1 Tryd.underlying26 rfl Tryd.sizeOf22 (by decide) (opt 0 rfl) rfl))⟩, ⟨rfl, fun β => (GOk.on_eq hb31 rfl rfl rfl (op_load_lb1 [one (intVP .u8 a_0.f_Domain)] [one (boolVP a_0.f_Two), bytesCk 32 a_0.f_A, bytesCk 32 a_0.f_B] 1 Tryd.isAgg22 (opt 0 rfl) rfl rfl))⟩, ⟨rfl, fun β => (GOk.on_eq hb31 rfl rfl rfl (op_len_sl Tryd.underlying22 (opt 0 rfl)))⟩, ⟨rfl, fun β => (GOk.on_eq hb31 rfl rfl rfl (op_bin bin_lss (opt 0 rfl) (opt 1 rfl)))⟩, ⟨rfl, fun β => (GOk.plain (op_pick_t hb31 (opt 0 rfl) (opt 1 rfl)) rfl)⟩, trivial⟩
              clear h
              intro β a w h
              change SatL c [.slot 2 (lpVP p1 0), .slot 3 (lpVP p2 0), .slot 5 (eqVP p9), .slot 6 (lpVP p12 0), .slot 7 (lpVP p13 0), .slot 8 (boolVP x19), .slot 9 (intVP .i64 x20), .slot 52 (boolVP (decide (x20 < (a_0.f_Parts.length : Int)))), .res (lb p1 26 [one (intVP .u8 a_0.f_Domain), one (slVP strC a_0.f_Parts), one (boolVP a_0.f_Two), bytesCk 32 a_0.f_A, bytesCk 32 a_0.f_B]), .res (lb p2 26 [one (intVP .u8 a_1.f_Domain), one (slVP strC a_1.f_Parts), one (boolVP a_1.f_Two), bytesCk 32 a_1.f_A, bytesCk 32 a_1.f_B]), .res (Log_e p9 r11.2), .res (lb p12 24 [bytesCk 32 r10.1]), .res (lb p13 24 [bytesCk 32 r11.1])] a w at h
              clear β
              exact ⟨decide (x20 < (a_0.f_Parts.length : Int)), hF, h.sub [0, 1, 2, 3, 4, 5, 6, 7, 8, 9, 10, 11, 12] (by rfl)⟩
            · replace hF := ff_of hb31 hF
              refine region_do (n := 95) [.slot 45 100000 100000 (fun _ _ => (boolVP x19)),
      .slot 46 100000 100000 (fun _ _ => (boolVP x19)),
      .slot 47 100000 100000 (fun _ _ => (eqVP undef)),
      .slot 48 100000 100000 (fun _ _ => (eqVP undef)),
      .slot 49 100000 100000 (fun _ _ => (eqVP undef)),
      .slot 50 100000 100000 (fun _ _ => (eqVP undef)),
      .slot 51 100000 100000 (fun _ _ => (eqVP undef)),
      .slot 52 100000 100000 (fun _ _ => (boolVP false))] [0, 1, 2, 3, 4, 5, 6, 7] [⟨[5], [], [12], [], some 45⟩, ⟨[12], [], [13], [0], some 46⟩, ⟨[13], [], [14], [0, 1], some 47⟩, ⟨[13], [], [15], [0, 1, 2], some 48⟩, ⟨[13], [], [16], [0, 1, 2, 3], some 49⟩, ⟨[13], [], [17], [0, 1, 2, 3, 4], some 50⟩, ⟨[13], [], [18], [0, 1, 2, 3, 4, 5], some 51⟩, ⟨[13], [], [19], [0, 1, 2, 3, 4, 5, 6], some 52⟩] [0, 1, 2, 3, 4, 5, 6, 19, 7, 8, 9, 10, 11] mixed hn hG h (by kernel_rfl) ?_ ?_
              · exact ⟨⟨rfl, fun β => (GOk.plain (op_move (opt 0 rfl)) rfl)⟩, ⟨rfl, fun β => (GOk.plain (op_move (opt 0 rfl)) rfl)⟩, ⟨rfl, fun β => (GOk.off_v (want := true) hb31 rfl rfl rfl rfl)⟩, ⟨rfl, fun β => (GOk.off_v (want := true) hb31 rfl rfl rfl rfl)⟩, ⟨rfl, fun β => (GOk.off_v (want := true) hb31 rfl rfl rfl rfl)⟩, ⟨rfl, fun β => (GOk.off_v (want := true) hb31 rfl rfl rfl rfl)⟩, ⟨rfl, fun β => (GOk.off_v (want := true) hb31 rfl rfl rfl rfl)⟩, ⟨rfl, fun β => (GOk.plain (op_pick_f hb31 (opt 0 rfl) (opc (bc _))) rfl)⟩, trivial⟩
              clear h
              intro β a w h
              change SatL c [.slot 2 (lpVP p1 0), .slot 3 (lpVP p2 0), .slot 5 (eqVP p9), .slot 6 (lpVP p12 0), .slot 7 (lpVP p13 0), .slot 8 (boolVP x19), .slot 9 (intVP .i64 x20), .slot 52 (boolVP false), .res (lb p1 26 [one (intVP .u8 a_0.f_Domain), one (slVP strC a_0.f_Parts), one (boolVP a_0.f_Two), bytesCk 32 a_0.f_A, bytesCk 32 a_0.f_B]), .res (lb p2 26 [one (intVP .u8 a_1.f_Domain), one (slVP strC a_1.f_Parts), one (boolVP a_1.f_Two), bytesCk 32 a_1.f_A, bytesCk 32 a_1.f_B]), .res (Log_e p9 r11.2), .res (lb p12 24 [bytesCk 32 r10.1]), .res (lb p13 24 [bytesCk 32 r11.1])] a w at h
              clear β
              exact ⟨false, hF, h.sub [0, 1, 2, 3, 4, 5, 6, 7, 8, 9, 10, 11, 12] (by rfl)⟩
          · clear h hF
            rintro a w ⟨x27, hF, h⟩
            unfold law04_DigestInputs.j2 at hF
            show Code.wp Tryd.prog _ _ a w
            refine cond_L h 7 rfl (fun hb28 => ?_) (fun hb28 => ?_)
            · replace hF := tt_of hb28 hF
              replace h := h.sub [0, 1, 2, 3, 4, 6, 8, 9, 10, 11, 12] (by rfl)
              change SatL c [.slot 2 (lpVP p1 0), .slot 3 (lpVP p2 0), .slot 5 (eqVP p9), .slot 6 (lpVP p12 0), .slot 7 (lpVP p13 0), .slot 9 (intVP .i64 x20), .res (lb p1 26 [one (intVP .u8 a_0.f_Domain), one (slVP strC a_0.f_Parts), one (boolVP a_0.f_Two), bytesCk 32 a_0.f_A, bytesCk 32 a_0.f_B]), .res (lb p2 26 [one (intVP .u8 a_1.f_Domain), one (slVP strC a_1.f_Parts), one (boolVP a_1.f_Two), bytesCk 32 a_1.f_A, bytesCk 32 a_1.f_B]), .res (Log_e p9 r11.2), .res (lb p12 24 [bytesCk 32 r10.1]), .res (lb p13 24 [bytesCk 32 r11.1])] a w at h
              refine wp_skip ?_
              show Code.wp Tryd.prog _ _ a w
              refine wp_seq ?_
              refine wp_block ?_
              obtain ⟨hv29, hF⟩ := ite_some hF
              obtain ⟨hv30, hF⟩ := ite_some hF
              refine region_do (n := 95) [.slot 55 100000 100000 (fun _ _ => (lpVP p1 1)),
      .slot 56 100000 100000 (fun _ _ => (slVP strC a_0.f_Parts)),
      .slot 57 100000 100000 (fun _ _ => (intVP .i64 x20)),
      .slot 58 100000 100000 (fun _ _ => (ppVP [one (strVP (a_0.f_Parts.getD x20.toNat default))])),
      .slot 59 100000 100000 (fun _ _ => (strVP (a_0.f_Parts.getD x20.toNat default))),
      .slot 60 100000 100000 (fun _ _ => (lpVP p2 1)),
      .slot 61 100000 100000 (fun _ _ => (slVP strC a_1.f_Parts)),
      .slot 62 100000 100000 (fun _ _ => (intVP .i64 x20)),
      .slot 63 100000 100000 (fun _ _ => (ppVP [one (strVP (a_1.f_Parts.getD x20.toNat default))])),
      .slot 64 100000 100000 (fun _ _ => (strVP (a_1.f_Parts.getD x20.toNat default))),
      .slot 65 100000 100000 (fun _ _ => (boolVP (decide ((a_0.f_Parts.getD x20.toNat default) = (a_1.f_Parts.getD x20.toNat default))))),
      .slot 8 100000 100000 (fun _ _ => (boolVP (decide ((a_0.f_Parts.getD x20.toNat default) = (a_1.f_Parts.getD x20.toNat default)))))] [0, 1, 2, 3, 4, 5, 6, 7, 8, 9, 10, 11] [⟨[0], [], [11], [], some 55⟩, ⟨[11, 6], [], [12], [0], some 56⟩, ⟨[5], [], [13], [], some 57⟩, ⟨[12, 13], [], [14], [0, 1, 2], some 58⟩, ⟨[14], [], [15], [0, 1, 2, 3], some 59⟩, ⟨[1], [], [16], [], some 60⟩, ⟨[16, 7], [], [17], [5], some 61⟩, ⟨[5], [], [18], [], some 62⟩, ⟨[17, 18], [], [19], [5, 6, 7], some 63⟩, ⟨[19], [], [20], [5, 6, 7, 8], some 64⟩, ⟨[15, 20], [], [21], [0, 1, 2, 3, 4, 5, 6, 7, 8, 9], some 65⟩, ⟨[21], [], [22], [0, 1, 2, 3, 4, 5, 6, 7, 8, 9, 10], some 8⟩] [0, 1, 2, 3, 4, 22, 5, 6, 7, 8, 9, 10] mixed hn hG h (by kernel_rfl) ?_ ?_
              · exact ⟨⟨rfl, fun β => (GOk.plain (op_fieldAddr_lbm (p := p1) (n := 1) 0 1 Tryd.underlying26 rfl Tryd.sizeOf22 (by decide) (opt 0 rfl) rfl) rfl)⟩, ⟨rfl, fun β => (GOk.plain (op_load_lb1 [one (intVP .u8 a_0.f_Domain)] [one (boolVP a_0.f_Two), bytesCk 32 a_0.f_A, bytesCk 32 a_0.f_B] 1 Tryd.isAgg22 (opt 0 rfl) rfl rfl) rfl)⟩, ⟨rfl, fun β => (GOk.plain (op_move (opt 0 rfl)) rfl)⟩, ⟨rfl, fun β => (GOk.plain (op_indexAddr_sl Tryd.underlying22 Tryd.sizeOf9 lens_strC (opt 0 rfl) (opt 1 rfl) hv29) rfl)⟩, ⟨rfl, fun β => (GOk.plain (op_load_pp1 [] Tryd.isAgg9 (opt 0 rfl)) rfl)⟩, ⟨rfl, fun β => (GOk.plain (op_fieldAddr_lbm (p := p2) (n := 1) 0 1 Tryd.underlying26 rfl Tryd.sizeOf22 (by decide) (opt 0 rfl) rfl) rfl)⟩, ⟨rfl, fun β => (GOk.plain (op_load_lb1 [one (intVP .u8 a_1.f_Domain)] [one (boolVP a_1.f_Two), bytesCk 32 a_1.f_A, bytesCk 32 a_1.f_B] 1 Tryd.isAgg22 (opt 0 rfl) rfl rfl) rfl)⟩, ⟨rfl, fun β => (GOk.plain (op_move (opt 0 rfl)) rfl)⟩, ⟨rfl, fun β => (GOk.plain (op_indexAddr_sl Tryd.underlying22 Tryd.sizeOf9 lens_strC (opt 0 rfl) (opt 1 rfl) hv30) rfl)⟩, ⟨rfl, fun β => (GOk.plain (op_load_pp1 [] Tryd.isAgg9 (opt 0 rfl)) rfl)⟩, ⟨rfl, fun β => (GOk.plain (op_bin bin_seql (opt 0 rfl) (opt 1 rfl)) rfl)⟩, ⟨rfl, fun β => (GOk.plain (op_assign (opt 0 rfl)) rfl)⟩, trivial⟩
              clear h
              intro β a w h
              change SatL c [.slot 2 (lpVP p1 0), .slot 3 (lpVP p2 0), .slot 5 (eqVP p9), .slot 6 (lpVP p12 0), .slot 7 (lpVP p13 0), .slot 8 (boolVP (decide ((a_0.f_Parts.getD x20.toNat default) = (a_1.f_Parts.getD x20.toNat default)))), .slot 9 (intVP .i64 x20), .res (lb p1 26 [one (intVP .u8 a_0.f_Domain), one (slVP strC a_0.f_Parts), one (boolVP a_0.f_Two), bytesCk 32 a_0.f_A, bytesCk 32 a_0.f_B]), .res (lb p2 26 [one (intVP .u8 a_1.f_Domain), one (slVP strC a_1.f_Parts), one (boolVP a_1.f_Two), bytesCk 32 a_1.f_A, bytesCk 32 a_1.f_B]), .res (Log_e p9 r11.2), .res (lb p12 24 [bytesCk 32 r10.1]), .res (lb p13 24 [bytesCk 32 r11.1])] a w at h
              clear β
              show Code.wp Tryd.prog _ _ a w
              refine region_do (n := 95) [.slot 53 100000 100000 (fun _ _ => (intVP .i64 x20)),
      .slot 54 100000 100000 (fun _ _ => (intVP .i64 (IntKind.wrap .i64 (x20 + 1)))),
      .slot 9 100000 100000 (fun _ _ => (intVP .i64 (IntKind.wrap .i64 (x20 + 1))))] [0, 1, 2] [⟨[6], [], [12], [], some 53⟩, ⟨[12], [], [13], [0], some 54⟩, ⟨[13], [6], [14], [0, 1], some 9⟩] [0, 1, 2, 3, 4, 5, 14, 7, 8, 9, 10, 11] mixed hn hG h (by kernel_rfl) ?_ ?_
              · exact ⟨⟨rfl, fun β => (GOk.plain (op_move (opt 0 rfl)) rfl)⟩, ⟨rfl, fun β => (GOk.plain (op_bin bin_add (opt 0 rfl) (opc (ic (by decide)))) rfl)⟩, ⟨rfl, fun β => (GOk.drop _ (GOk.plain (op_assign (opt 0 rfl)) rfl))⟩, trivial⟩
              clear h
              intro β a w h
              change SatL c [.slot 2 (lpVP p1 0), .slot 3 (lpVP p2 0), .slot 5 (eqVP p9), .slot 6 (lpVP p12 0), .slot 7 (lpVP p13 0), .slot 8 (boolVP (decide ((a_0.f_Parts.getD x20.toNat default) = (a_1.f_Parts.getD x20.toNat default)))), .slot 9 (intVP .i64 (IntKind.wrap .i64 (x20 + 1))), .res (lb p1 26 [one (intVP .u8 a_0.f_Domain), one (slVP strC a_0.f_Parts), one (boolVP a_0.f_Two), bytesCk 32 a_0.f_A, bytesCk 32 a_0.f_B]), .res (lb p2 26 [one (intVP .u8 a_1.f_Domain), one (slVP strC a_1.f_Parts), one (boolVP a_1.f_Two), bytesCk 32 a_1.f_A, bytesCk 32 a_1.f_B]), .res (Log_e p9 r11.2), .res (lb p12 24 [bytesCk 32 r10.1]), .res (lb p13 24 [bytesCk 32 r11.1])] a w at h
              clear β
              obtain rfl := Option.some.inj hF
              exact ⟨rfl, h.sub [0, 1, 2, 3, 4, 5, 6, 7, 8, 9, 10, 11] (by rfl)⟩
            · replace hF := ff_of hb28 hF
              replace h := h.sub [0, 1, 2, 3, 4, 5, 6, 8, 9, 10, 11, 12] (by rfl)
              change SatL c [.slot 2 (lpVP p1 0), .slot 3 (lpVP p2 0), .slot 5 (eqVP p9), .slot 6 (lpVP p12 0), .slot 7 (lpVP p13 0), .slot 8 (boolVP x19), .slot 9 (intVP .i64 x20), .res (lb p1 26 [one (intVP .u8 a_0.f_Domain), one (slVP strC a_0.f_Parts), one (boolVP a_0.f_Two), bytesCk 32 a_0.f_A, bytesCk 32 a_0.f_B]), .res (lb p2 26 [one (intVP .u8 a_1.f_Domain), one (slVP strC a_1.f_Parts), one (boolVP a_1.f_Two), bytesCk 32 a_1.f_A, bytesCk 32 a_1.f_B]), .res (Log_e p9 r11.2), .res (lb p12 24 [bytesCk 32 r10.1]), .res (lb p13 24 [bytesCk 32 r11.1])] a w at h
              refine wp_exit ?_
              obtain rfl := Option.some.inj hF
              exact ⟨exit_ne _, rfl, h.sub [2, 3, 4, 5, 9, 10, 11] (by rfl)⟩
        · clear hl33
          intro e a w hq
          cases cr32 with
          | ret r34 =>
            obtain ⟨rfl, hq⟩ := hq
            obtain rfl := Option.some.inj hF
            exact ⟨.inl rfl, hq⟩
          | next s35 =>
            obtain ⟨y36, y37⟩ := s35
            obtain ⟨rfl, h⟩ := hq
            change SatL c [.slot 5 (eqVP p9), .slot 6 (lpVP p12 0), .slot 7 (lpVP p13 0), .slot 8 (boolVP y36), .res (Log_e p9 r11.2), .res (lb p12 24 [bytesCk 32 r10.1]), .res (lb p13 24 [bytesCk 32 r11.1])] a w at h
            refine inBlock_at ?_
            show Code.wp Tryd.prog _ _ a w
            refine wp_seq ?_
            obtain ⟨r38, hr38, hF⟩ := bind_some hF
            refine wp_cut (fun a w => ∃ (x42 : Bool), law04_DigestInputs.j3 x42 = some r ∧ SatL c [.slot 4 (boolVP x42), .res (Log_e p9 r11.2)] a w) ?_ ?_
            · rcases Bool.eq_false_or_eq_true r38 with hb43 | hb43
              · replace hF := tt_of hb43 hF
                obtain ⟨r39, hr39, hF⟩ := bind_some hF
                rcases Bool.eq_false_or_eq_true ((decide (r39 = (1 : Int))) == y36) with hb44 | hb44
                · replace hF := tt_of hb44 hF
                  rcases Bool.eq_false_or_eq_true (!y36) with hb45 | hb45
                  · replace hF := tt_of hb45 hF
                    obtain ⟨r40, hr40, hF⟩ := bind_some hF
                    refine region_do (n := 95) [.slot 66 100000 100000 (fun _ _ => (boolVP r38)),
      .slot 67 100000 100000 (fun _ _ => (boolVP r38)),
      .slot 68 100000 100000 (fun _ _ => (eqVP p9)),
      .slot 69 100000 100000 (fun _ _ => (intVP .i64 r39)),
      .res 100000 100000 (fun _ _ => (Log_e p9 r11.2)),
      .slot 70 100000 100000 (fun _ _ => (boolVP (decide (r39 = (1 : Int))))),
      .slot 71 100000 100000 (fun _ _ => (boolVP y36)),
      .slot 72 100000 100000 (fun _ _ => (boolVP ((decide (r39 = (1 : Int))) == y36))),
      .slot 73 100000 100000 (fun _ _ => (boolVP ((decide (r39 = (1 : Int))) == y36))),
      .slot 74 100000 100000 (fun _ _ => (boolVP ((decide (r39 = (1 : Int))) == y36))),
      .slot 75 100000 100000 (fun _ _ => (boolVP y36)),
      .slot 76 100000 100000 (fun _ _ => (boolVP (!y36))),
      .slot 77 100000 100000 (fun _ _ => (boolVP (!y36))),
      .slot 78 100000 100000 (fun _ _ => (eqVP undef)),
      .slot 79 100000 100000 (fun _ _ => (eqVP undef)),
      .slot 80 100000 100000 (fun _ _ => (eqVP undef)),
      .slot 81 100000 100000 (fun _ _ => (boolVP true)),
      .slot 82 100000 100000 (fun _ _ => (boolVP true)),
      .slot 83 100000 100000 (fun _ _ => (boolVP true)),
      .slot 84 100000 100000 (fun _ _ => (eqVP p9)),
      .slot 85 100000 100000 (fun _ _ => (boolVP r40)),
      .res 100000 100000 (fun _ _ => (Log_e p9 r11.2)),
      .slot 86 100000 100000 (fun _ _ => (boolVP y36)),
      .slot 87 100000 100000 (fun _ _ => (boolVP (!y36))),
      .slot 88 100000 100000 (fun _ _ => (boolVP (!y36))),
      .slot 89 100000 100000 (fun _ _ => (aggVP [bytesCk 32 r10.1])),
      .slot 90 100000 100000 (fun _ _ => (aggVP [bytesCk 32 r11.1])),
      .slot 91 100000 100000 (fun _ _ => (boolVP (decide (r10.1 = r11.1)))),
      .slot 92 100000 100000 (fun _ _ => (boolVP (decide (r10.1 = r11.1)))),
      .slot 93 100000 100000 (fun _ _ => (boolVP (r40 == (decide (r10.1 = r11.1))))),
      .slot 94 100000 100000 (fun _ _ => (boolVP (r40 == (decide (r10.1 = r11.1))))),
      .slot 4 100000 100000 (fun _ _ => (boolVP (r40 == (decide (r10.1 = r11.1)))))] [0, 1, 2, 3, 3, 4, 5, 6, 7, 8, 9, 10, 11, 12, 13, 14, 15, 16, 17, 18, 19, 19, 20, 21, 22, 23, 24, 25, 26, 27, 28, 29] [⟨[], [], [7], [], some 66⟩, ⟨[7], [], [8], [0], some 67⟩, ⟨[8, 0], [], [9], [0, 1], some 68⟩, ⟨[8, 9], [4], [10, 11], [0, 1, 2], some 69⟩, ⟨[8, 10], [], [12], [0, 1, 2, 3], some 70⟩, ⟨[8, 3], [], [13], [0, 1, 2, 3, 4], some 71⟩, ⟨[8, 12, 13], [], [14], [0, 1, 2, 3, 4, 5], some 72⟩, ⟨[8, 14], [], [15], [0, 1, 2, 3, 4, 5, 6], some 73⟩, ⟨[15], [], [16], [0, 1, 2, 3, 4, 5, 6, 7], some 74⟩, ⟨[16, 3], [], [17], [0, 1, 2, 3, 4, 5, 6, 7, 8], some 75⟩, ⟨[16, 17], [], [18], [0, 1, 2, 3, 4, 5, 6, 7, 8, 9], some 76⟩, ⟨[16, 18], [], [19], [0, 1, 2, 3, 4, 5, 6, 7, 8, 9, 10], some 77⟩, ⟨[19], [], [20], [0, 1, 2, 3, 4, 5, 6, 7, 8, 9, 10, 11], some 78⟩, ⟨[19], [], [21], [0, 1, 2, 3, 4, 5, 6, 7, 8, 9, 10, 11, 12], some 79⟩, ⟨[19], [], [22], [0, 1, 2, 3, 4, 5, 6, 7, 8, 9, 10, 11, 12, 13], some 80⟩, ⟨[16, 19], [], [23], [0, 1, 2, 3, 4, 5, 6, 7, 8, 9, 10, 11, 12, 13, 14], some 81⟩, ⟨[16, 23], [], [24], [0, 1, 2, 3, 4, 5, 6, 7, 8, 9, 10, 11, 12, 13, 14, 15], some 82⟩, ⟨[24], [], [25], [0, 1, 2, 3, 4, 5, 6, 7, 8, 9, 10, 11, 12, 13, 14, 15, 16], some 83⟩, ⟨[25, 0], [], [26], [0, 1, 2, 3, 4, 5, 6, 7, 8, 9, 10, 11, 12, 13, 14, 15, 16, 17], some 84⟩, ⟨[25, 26], [11], [27, 28], [0, 1, 2, 3, 4, 5, 6, 7, 8, 9, 10, 11, 12, 13, 14, 15, 16, 17, 18], some 85⟩, ⟨[25, 3], [], [29], [0, 1, 2, 3, 4, 5, 6, 7, 8, 9, 10, 11, 12, 13, 14, 15, 16, 17, 18, 19], some 86⟩, ⟨[25, 29], [], [30], [0, 1, 2, 3, 4, 5, 6, 7, 8, 9, 10, 11, 12, 13, 14, 15, 16, 17, 18, 19, 20], some 87⟩, ⟨[25, 30], [], [31], [0, 1, 2, 3, 4, 5, 6, 7, 8, 9, 10, 11, 12, 13, 14, 15, 16, 17, 18, 19, 20, 21], some 88⟩, ⟨[31, 1, 5], [], [32], [0, 1, 2, 3, 4, 5, 6, 7, 8, 9, 10, 11, 12, 13, 14, 15, 16, 17, 18, 19, 20, 21, 22], some 89⟩, ⟨[31, 2, 6], [], [33], [0, 1, 2, 3, 4, 5, 6, 7, 8, 9, 10, 11, 12, 13, 14, 15, 16, 17, 18, 19, 20, 21, 22, 23], some 90⟩, ⟨[31, 32, 33], [], [34], [0, 1, 2, 3, 4, 5, 6, 7, 8, 9, 10, 11, 12, 13, 14, 15, 16, 17, 18, 19, 20, 21, 22, 23, 24], some 91⟩, ⟨[25, 31, 34], [], [35], [0, 1, 2, 3, 4, 5, 6, 7, 8, 9, 10, 11, 12, 13, 14, 15, 16, 17, 18, 19, 20, 21, 22, 23, 24, 25], some 92⟩, ⟨[25, 27, 35], [], [36], [0, 1, 2, 3, 4, 5, 6, 7, 8, 9, 10, 11, 12, 13, 14, 15, 16, 17, 18, 19, 20, 21, 22, 23, 24, 25, 26], some 93⟩, ⟨[25, 36], [], [37], [0, 1, 2, 3, 4, 5, 6, 7, 8, 9, 10, 11, 12, 13, 14, 15, 16, 17, 18, 19, 20, 21, 22, 23, 24, 25, 26, 27], some 94⟩, ⟨[37], [], [38], [0, 1, 2, 3, 4, 5, 6, 7, 8, 9, 10, 11, 12, 13, 14, 15, 16, 17, 18, 19, 20, 21, 22, 23, 24, 25, 26, 27, 28], some 4⟩] [38, 28] mixed hn hG h (by kernel_rfl) ?_ ?_
                    · exact ⟨⟨rfl, fun β => (GOk.plain (op_call Tryd.call11 (law04_awake_ok hr38) trivial) rfl)⟩, ⟨rfl, fun β => (GOk.plain (op_move (opt 0 rfl)) rfl)⟩, ⟨rfl, fun β => (GOk.on_eq hb43 rfl rfl rfl (op_move (opt 0 rfl)))⟩, ⟨rfl, fun β => (GOk.on_eq hb43 rfl rfl rfl (op_call Tryd.call15 (digest_Log_Count_oke hr39) ⟨(opt 0 rfl), trivial⟩))⟩, ⟨rfl, fun β => (GOk.on_eq hb43 rfl rfl rfl (op_bin bin_eql (opt 0 rfl) (opc (ic (by decide)))))⟩, ⟨rfl, fun β => (GOk.on_eq hb43 rfl rfl rfl (op_move (opt 0 rfl)))⟩, ⟨rfl, fun β => (GOk.on_eq hb43 rfl rfl rfl (op_bin (bin_beql Tryd.underlying4) (opt 0 rfl) (opt 1 rfl)))⟩, ⟨rfl, fun β => (GOk.plain (op_pick_t hb43 (opt 0 rfl) (opt 1 rfl)) rfl)⟩, ⟨rfl, fun β => (GOk.plain (op_move (opt 0 rfl)) rfl)⟩, ⟨rfl, fun β => (GOk.on_eq hb44 rfl rfl rfl (op_move (opt 0 rfl)))⟩, ⟨rfl, fun β => (GOk.on_eq hb44 rfl rfl rfl (op_un (un_not _) (opt 0 rfl)))⟩, ⟨rfl, fun β => (GOk.on_eq hb44 rfl rfl rfl (op_move (opt 0 rfl)))⟩, ⟨rfl, fun β => (GOk.off_v (want := false) hb45 rfl rfl rfl rfl)⟩, ⟨rfl, fun β => (GOk.off_v (want := false) hb45 rfl rfl rfl rfl)⟩, ⟨rfl, fun β => (GOk.off_v (want := false) hb45 rfl rfl rfl rfl)⟩, ⟨rfl, fun β => (GOk.on_eq hb44 rfl rfl rfl (op_pick_t hb45 (opt 0 rfl) (opc (bc _))))⟩, ⟨rfl, fun β => (GOk.plain (op_pick_t hb44 (opt 0 rfl) (opt 1 rfl)) rfl)⟩, ⟨rfl, fun β => (GOk.plain (op_move (opt 0 rfl)) rfl)⟩, ⟨rfl, fun β => (GOk.on_eq rfl rfl rfl rfl (op_move (opt 0 rfl)))⟩, ⟨rfl, fun β => (GOk.on_eq rfl rfl rfl rfl (op_call Tryd.call16 (digest_Log_Clash_oke hr40) ⟨(opt 0 rfl), trivial⟩))⟩, ⟨rfl, fun β => (GOk.on_eq rfl rfl rfl rfl (op_move (opt 0 rfl)))⟩, ⟨rfl, fun β => (GOk.on_eq rfl rfl rfl rfl (op_un (un_not _) (opt 0 rfl)))⟩, ⟨rfl, fun β => (GOk.on_eq rfl rfl rfl rfl (op_move (opt 0 rfl)))⟩, ⟨rfl, fun β => (GOk.on_eq hb45 rfl rfl rfl (op_load_lb [] [bytesCk 32 r10.1] [] 1 Tryd.isAgg24 Tryd.sizeOf24 (opt 0 rfl) rfl rfl rfl))⟩, ⟨rfl, fun β => (GOk.on_eq hb45 rfl rfl rfl (op_load_lb [] [bytesCk 32 r11.1] [] 1 Tryd.isAgg24 Tryd.sizeOf24 (opt 0 rfl) rfl rfl rfl))⟩, ⟨rfl, fun β => (GOk.on_eq hb45 rfl rfl rfl (op_bin (bin_aeql Tryd.underlying24 Tryd.underlying5 Tryd.type5 Tryd.sizeOf5 Tryd.isAgg5 Tryd.eqGuardType24) (opt 0 rfl) (opt 1 rfl)))⟩, ⟨rfl, fun β => (GOk.on_eq rfl rfl rfl rfl (op_pick_t hb45 (opt 0 rfl) (opt 1 rfl)))⟩, ⟨rfl, fun β => (GOk.on_eq rfl rfl rfl rfl (op_bin (bin_beql Tryd.underlying4) (opt 0 rfl) (opt 1 rfl)))⟩, ⟨rfl, fun β => (GOk.plain (op_pick_t rfl (opt 0 rfl) (opt 1 rfl)) rfl)⟩, ⟨rfl, fun β => (GOk.plain (op_assign (opt 0 rfl)) rfl)⟩, trivial⟩
                    clear h
                    intro β a w h
                    change SatL c [.slot 4 (boolVP (r40 == (decide (r10.1 = r11.1)))), .res (Log_e p9 r11.2)] a w at h
                    clear β
                    exact ⟨r40 == (decide (r10.1 = r11.1)), hF, h.sub [0, 1] (by rfl)⟩
                  · replace hF := ff_of hb45 hF
                    rcases Bool.eq_false_or_eq_true (decide (r10.1 = r11.1)) with hb46 | hb46
                    · replace hF := tt_of hb46 hF
                      obtain ⟨r41, hr41, hF⟩ := bind_some hF
                      refine region_do (n := 95) [.slot 66 100000 100000 (fun _ _ => (boolVP r38)),
      .slot 67 100000 100000 (fun _ _ => (boolVP r38)),
      .slot 68 100000 100000 (fun _ _ => (eqVP p9)),
      .slot 69 100000 100000 (fun _ _ => (intVP .i64 r39)),
      .res 100000 100000 (fun _ _ => (Log_e p9 r11.2)),
      .slot 70 100000 100000 (fun _ _ => (boolVP (decide (r39 = (1 : Int))))),
      .slot 71 100000 100000 (fun _ _ => (boolVP y36)),
      .slot 72 100000 100000 (fun _ _ => (boolVP ((decide (r39 = (1 : Int))) == y36))),
      .slot 73 100000 100000 (fun _ _ => (boolVP ((decide (r39 = (1 : Int))) == y36))),
      .slot 74 100000 100000 (fun _ _ => (boolVP ((decide (r39 = (1 : Int))) == y36))),
      .slot 75 100000 100000 (fun _ _ => (boolVP y36)),
      .slot 76 100000 100000 (fun _ _ => (boolVP (!y36))),
      .slot 77 100000 100000 (fun _ _ => (boolVP (!y36))),
      .slot 78 100000 100000 (fun _ _ => (aggVP [bytesCk 32 r10.1])),
      .slot 79 100000 100000 (fun _ _ => (aggVP [bytesCk 32 r11.1])),
      .slot 80 100000 100000 (fun _ _ => (boolVP (decide (r10.1 = r11.1)))),
      .slot 81 100000 100000 (fun _ _ => (boolVP (decide (r10.1 = r11.1)))),
      .slot 82 100000 100000 (fun _ _ => (boolVP (decide (r10.1 = r11.1)))),
      .slot 83 100000 100000 (fun _ _ => (boolVP (decide (r10.1 = r11.1)))),
      .slot 84 100000 100000 (fun _ _ => (eqVP p9)),
      .slot 85 100000 100000 (fun _ _ => (boolVP r41)),
      .res 100000 100000 (fun _ _ => (Log_e p9 r11.2)),
      .slot 86 100000 100000 (fun _ _ => (boolVP y36)),
      .slot 87 100000 100000 (fun _ _ => (boolVP (!y36))),
      .slot 88 100000 100000 (fun _ _ => (boolVP (!y36))),
      .slot 89 100000 100000 (fun _ _ => (eqVP undef)),
      .slot 90 100000 100000 (fun _ _ => (eqVP undef)),
      .slot 91 100000 100000 (fun _ _ => (eqVP undef)),
      .slot 92 100000 100000 (fun _ _ => (boolVP false)),
      .slot 93 100000 100000 (fun _ _ => (boolVP (r41 == false))),
      .slot 94 100000 100000 (fun _ _ => (boolVP (r41 == false))),
      .slot 4 100000 100000 (fun _ _ => (boolVP (r41 == false)))] [0, 1, 2, 3, 3, 4, 5, 6, 7, 8, 9, 10, 11, 12, 13, 14, 15, 16, 17, 18, 19, 19, 20, 21, 22, 23, 24, 25, 26, 27, 28, 29] [⟨[], [], [7], [], some 66⟩, ⟨[7], [], [8], [0], some 67⟩, ⟨[8, 0], [], [9], [0, 1], some 68⟩, ⟨[8, 9], [4], [10, 11], [0, 1, 2], some 69⟩, ⟨[8, 10], [], [12], [0, 1, 2, 3], some 70⟩, ⟨[8, 3], [], [13], [0, 1, 2, 3, 4], some 71⟩, ⟨[8, 12, 13], [], [14], [0, 1, 2, 3, 4, 5], some 72⟩, ⟨[8, 14], [], [15], [0, 1, 2, 3, 4, 5, 6], some 73⟩, ⟨[15], [], [16], [0, 1, 2, 3, 4, 5, 6, 7], some 74⟩, ⟨[16, 3], [], [17], [0, 1, 2, 3, 4, 5, 6, 7, 8], some 75⟩, ⟨[16, 17], [], [18], [0, 1, 2, 3, 4, 5, 6, 7, 8, 9], some 76⟩, ⟨[16, 18], [], [19], [0, 1, 2, 3, 4, 5, 6, 7, 8, 9, 10], some 77⟩, ⟨[19, 1, 5], [], [20], [0, 1, 2, 3, 4, 5, 6, 7, 8, 9, 10, 11], some 78⟩, ⟨[19, 2, 6], [], [21], [0, 1, 2, 3, 4, 5, 6, 7, 8, 9, 10, 11, 12], some 79⟩, ⟨[19, 20, 21], [], [22], [0, 1, 2, 3, 4, 5, 6, 7, 8, 9, 10, 11, 12, 13], some 80⟩, ⟨[16, 19, 22], [], [23], [0, 1, 2, 3, 4, 5, 6, 7, 8, 9, 10, 11, 12, 13, 14], some 81⟩, ⟨[16, 23], [], [24], [0, 1, 2, 3, 4, 5, 6, 7, 8, 9, 10, 11, 12, 13, 14, 15], some 82⟩, ⟨[24], [], [25], [0, 1, 2, 3, 4, 5, 6, 7, 8, 9, 10, 11, 12, 13, 14, 15, 16], some 83⟩, ⟨[25, 0], [], [26], [0, 1, 2, 3, 4, 5, 6, 7, 8, 9, 10, 11, 12, 13, 14, 15, 16, 17], some 84⟩, ⟨[25, 26], [11], [27, 28], [0, 1, 2, 3, 4, 5, 6, 7, 8, 9, 10, 11, 12, 13, 14, 15, 16, 17, 18], some 85⟩, ⟨[25, 3], [], [29], [0, 1, 2, 3, 4, 5, 6, 7, 8, 9, 10, 11, 12, 13, 14, 15, 16, 17, 18, 19], some 86⟩, ⟨[25, 29], [], [30], [0, 1, 2, 3, 4, 5, 6, 7, 8, 9, 10, 11, 12, 13, 14, 15, 16, 17, 18, 19, 20], some 87⟩, ⟨[25, 30], [], [31], [0, 1, 2, 3, 4, 5, 6, 7, 8, 9, 10, 11, 12, 13, 14, 15, 16, 17, 18, 19, 20, 21], some 88⟩, ⟨[31], [], [32], [0, 1, 2, 3, 4, 5, 6, 7, 8, 9, 10, 11, 12, 13, 14, 15, 16, 17, 18, 19, 20, 21, 22], some 89⟩, ⟨[31], [], [33], [0, 1, 2, 3, 4, 5, 6, 7, 8, 9, 10, 11, 12, 13, 14, 15, 16, 17, 18, 19, 20, 21, 22, 23], some 90⟩, ⟨[31], [], [34], [0, 1, 2, 3, 4, 5, 6, 7, 8, 9, 10, 11, 12, 13, 14, 15, 16, 17, 18, 19, 20, 21, 22, 23, 24], some 91⟩, ⟨[25, 31], [], [35], [0, 1, 2, 3, 4, 5, 6, 7, 8, 9, 10, 11, 12, 13, 14, 15, 16, 17, 18, 19, 20, 21, 22, 23, 24, 25], some 92⟩, ⟨[25, 27, 35], [], [36], [0, 1, 2, 3, 4, 5, 6, 7, 8, 9, 10, 11, 12, 13, 14, 15, 16, 17, 18, 19, 20, 21, 22, 23, 24, 25, 26], some 93⟩, ⟨[25, 36], [], [37], [0, 1, 2, 3, 4, 5, 6, 7, 8, 9, 10, 11, 12, 13, 14, 15, 16, 17, 18, 19, 20, 21, 22, 23, 24, 25, 26, 27], some 94⟩, ⟨[37], [], [38], [0, 1, 2, 3, 4, 5, 6, 7, 8, 9, 10, 11, 12, 13, 14, 15, 16, 17, 18, 19, 20, 21, 22, 23, 24, 25, 26, 27, 28], some 4⟩] [38, 28] mixed hn hG h (by kernel_rfl) ?_ ?_
                      · exact ⟨⟨rfl, fun β => (GOk.plain (op_call Tryd.call11 (law04_awake_ok hr38) trivial) rfl)⟩, ⟨rfl, fun β => (GOk.plain (op_move (opt 0 rfl)) rfl)⟩, ⟨rfl, fun β => (GOk.on_eq hb43 rfl rfl rfl (op_move (opt 0 rfl)))⟩, ⟨rfl, fun β => (GOk.on_eq hb43 rfl rfl rfl (op_call Tryd.call15 (digest_Log_Count_oke hr39) ⟨(opt 0 rfl), trivial⟩))⟩, ⟨rfl, fun β => (GOk.on_eq hb43 rfl rfl rfl (op_bin bin_eql (opt 0 rfl) (opc (ic (by decide)))))⟩, ⟨rfl, fun β => (GOk.on_eq hb43 rfl rfl rfl (op_move (opt 0 rfl)))⟩, ⟨rfl, fun β => (GOk.on_eq hb43 rfl rfl rfl (op_bin (bin_beql Tryd.underlying4) (opt 0 rfl) (opt 1 rfl)))⟩, ⟨rfl, fun β => (GOk.plain (op_pick_t hb43 (opt 0 rfl) (opt 1 rfl)) rfl)⟩, ⟨rfl, fun β => (GOk.plain (op_move (opt 0 rfl)) rfl)⟩, ⟨rfl, fun β => (GOk.on_eq hb44 rfl rfl rfl (op_move (opt 0 rfl)))⟩, ⟨rfl, fun β => (GOk.on_eq hb44 rfl rfl rfl (op_un (un_not _) (opt 0 rfl)))⟩, ⟨rfl, fun β => (GOk.on_eq hb44 rfl rfl rfl (op_move (opt 0 rfl)))⟩, ⟨rfl, fun β => (GOk.on_eq hb45 rfl rfl rfl (op_load_lb [] [bytesCk 32 r10.1] [] 1 Tryd.isAgg24 Tryd.sizeOf24 (opt 0 rfl) rfl rfl rfl))⟩, ⟨rfl, fun β => (GOk.on_eq hb45 rfl rfl rfl (op_load_lb [] [bytesCk 32 r11.1] [] 1 Tryd.isAgg24 Tryd.sizeOf24 (opt 0 rfl) rfl rfl rfl))⟩, ⟨rfl, fun β => (GOk.on_eq hb45 rfl rfl rfl (op_bin (bin_aeql Tryd.underlying24 Tryd.underlying5 Tryd.type5 Tryd.sizeOf5 Tryd.isAgg5 Tryd.eqGuardType24) (opt 0 rfl) (opt 1 rfl)))⟩, ⟨rfl, fun β => (GOk.on_eq hb44 rfl rfl rfl (op_pick_f hb45 (opt 0 rfl) (opt 1 rfl)))⟩, ⟨rfl, fun β => (GOk.plain (op_pick_t hb44 (opt 0 rfl) (opt 1 rfl)) rfl)⟩, ⟨rfl, fun β => (GOk.plain (op_move (opt 0 rfl)) rfl)⟩, ⟨rfl, fun β => (GOk.on_eq hb46 rfl rfl rfl (op_move (opt 0 rfl)))⟩, ⟨rfl, fun β => (GOk.on_eq hb46 rfl rfl rfl (op_call Tryd.call16 (digest_Log_Clash_oke hr41) ⟨(opt 0 rfl), trivial⟩))⟩, ⟨rfl, fun β => (GOk.on_eq hb46 rfl rfl rfl (op_move (opt 0 rfl)))⟩, ⟨rfl, fun β => (GOk.on_eq hb46 rfl rfl rfl (op_un (un_not _) (opt 0 rfl)))⟩, ⟨rfl, fun β => (GOk.on_eq hb46 rfl rfl rfl (op_move (opt 0 rfl)))⟩, ⟨rfl, fun β => (GOk.off_v (want := true) hb45 rfl rfl rfl rfl)⟩, ⟨rfl, fun β => (GOk.off_v (want := true) hb45 rfl rfl rfl rfl)⟩, ⟨rfl, fun β => (GOk.off_v (want := true) hb45 rfl rfl rfl rfl)⟩, ⟨rfl, fun β => (GOk.on_eq hb46 rfl rfl rfl (op_pick_f hb45 (opt 0 rfl) (opc (bc _))))⟩, ⟨rfl, fun β => (GOk.on_eq hb46 rfl rfl rfl (op_bin (bin_beql Tryd.underlying4) (opt 0 rfl) (opt 1 rfl)))⟩, ⟨rfl, fun β => (GOk.plain (op_pick_t hb46 (opt 0 rfl) (opt 1 rfl)) rfl)⟩, ⟨rfl, fun β => (GOk.plain (op_assign (opt 0 rfl)) rfl)⟩, trivial⟩
                      clear h
                      intro β a w h
                      change SatL c [.slot 4 (boolVP (r41 == false)), .res (Log_e p9 r11.2)] a w at h
                      clear β
                      exact ⟨r41 == false, hF, h.sub [0, 1] (by rfl)⟩
                    · replace hF := ff_of hb46 hF
                      refine region_do (n := 95) [.slot 66 100000 100000 (fun _ _ => (boolVP r38)),
      .slot 67 100000 100000 (fun _ _ => (boolVP r38)),
      .slot 68 100000 100000 (fun _ _ => (eqVP p9)),
      .slot 69 100000 100000 (fun _ _ => (intVP .i64 r39)),
      .res 100000 100000 (fun _ _ => (Log_e p9 r11.2)),
      .slot 70 100000 100000 (fun _ _ => (boolVP (decide (r39 = (1 : Int))))),
      .slot 71 100000 100000 (fun _ _ => (boolVP y36)),
      .slot 72 100000 100000 (fun _ _ => (boolVP ((decide (r39 = (1 : Int))) == y36))),
      .slot 73 100000 100000 (fun _ _ => (boolVP ((decide (r39 = (1 : Int))) == y36))),
      .slot 74 100000 100000 (fun _ _ => (boolVP ((decide (r39 = (1 : Int))) == y36))),
      .slot 75 100000 100000 (fun _ _ => (boolVP y36)),
      .slot 76 100000 100000 (fun _ _ => (boolVP (!y36))),
      .slot 77 100000 100000 (fun _ _ => (boolVP (!y36))),
      .slot 78 100000 100000 (fun _ _ => (aggVP [bytesCk 32 r10.1])),
      .slot 79 100000 100000 (fun _ _ => (aggVP [bytesCk 32 r11.1])),
      .slot 80 100000 100000 (fun _ _ => (boolVP (decide (r10.1 = r11.1)))),
      .slot 81 100000 100000 (fun _ _ => (boolVP (decide (r10.1 = r11.1)))),
      .slot 82 100000 100000 (fun _ _ => (boolVP (decide (r10.1 = r11.1)))),
      .slot 83 100000 100000 (fun _ _ => (boolVP (decide (r10.1 = r11.1)))),
      .slot 84 100000 100000 (fun _ _ => (eqVP undef)),
      .slot 85 100000 100000 (fun _ _ => (eqVP undef)),
      .slot 86 100000 100000 (fun _ _ => (eqVP undef)),
      .slot 87 100000 100000 (fun _ _ => (eqVP undef)),
      .slot 88 100000 100000 (fun _ _ => (eqVP undef)),
      .slot 89 100000 100000 (fun _ _ => (eqVP undef)),
      .slot 90 100000 100000 (fun _ _ => (eqVP undef)),
      .slot 91 100000 100000 (fun _ _ => (eqVP undef)),
      .slot 92 100000 100000 (fun _ _ => (eqVP undef)),
      .slot 93 100000 100000 (fun _ _ => (eqVP undef)),
      .slot 94 100000 100000 (fun _ _ => (boolVP false)),
      .slot 4 100000 100000 (fun _ _ => (boolVP false))] [0, 1, 2, 3, 3, 4, 5, 6, 7, 8, 9, 10, 11, 12, 13, 14, 15, 16, 17, 18, 19, 20, 21, 22, 23, 24, 25, 26, 27, 28, 29] [⟨[], [], [7], [], some 66⟩, ⟨[7], [], [8], [0], some 67⟩, ⟨[8, 0], [], [9], [0, 1], some 68⟩, ⟨[8, 9], [4], [10, 11], [0, 1, 2], some 69⟩, ⟨[8, 10], [], [12], [0, 1, 2, 3], some 70⟩, ⟨[8, 3], [], [13], [0, 1, 2, 3, 4], some 71⟩, ⟨[8, 12, 13], [], [14], [0, 1, 2, 3, 4, 5], some 72⟩, ⟨[8, 14], [], [15], [0, 1, 2, 3, 4, 5, 6], some 73⟩, ⟨[15], [], [16], [0, 1, 2, 3, 4, 5, 6, 7], some 74⟩, ⟨[16, 3], [], [17], [0, 1, 2, 3, 4, 5, 6, 7, 8], some 75⟩, ⟨[16, 17], [], [18], [0, 1, 2, 3, 4, 5, 6, 7, 8, 9], some 76⟩, ⟨[16, 18], [], [19], [0, 1, 2, 3, 4, 5, 6, 7, 8, 9, 10], some 77⟩, ⟨[19, 1, 5], [], [20], [0, 1, 2, 3, 4, 5, 6, 7, 8, 9, 10, 11], some 78⟩, ⟨[19, 2, 6], [], [21], [0, 1, 2, 3, 4, 5, 6, 7, 8, 9, 10, 11, 12], some 79⟩, ⟨[19, 20, 21], [], [22], [0, 1, 2, 3, 4, 5, 6, 7, 8, 9, 10, 11, 12, 13], some 80⟩, ⟨[16, 19, 22], [], [23], [0, 1, 2, 3, 4, 5, 6, 7, 8, 9, 10, 11, 12, 13, 14], some 81⟩, ⟨[16, 23], [], [24], [0, 1, 2, 3, 4, 5, 6, 7, 8, 9, 10, 11, 12, 13, 14, 15], some 82⟩, ⟨[24], [], [25], [0, 1, 2, 3, 4, 5, 6, 7, 8, 9, 10, 11, 12, 13, 14, 15, 16], some 83⟩, ⟨[25], [], [26], [0, 1, 2, 3, 4, 5, 6, 7, 8, 9, 10, 11, 12, 13, 14, 15, 16, 17], some 84⟩, ⟨[25], [], [27], [0, 1, 2, 3, 4, 5, 6, 7, 8, 9, 10, 11, 12, 13, 14, 15, 16, 17, 18], some 85⟩, ⟨[25], [], [28], [0, 1, 2, 3, 4, 5, 6, 7, 8, 9, 10, 11, 12, 13, 14, 15, 16, 17, 18, 19], some 86⟩, ⟨[25], [], [29], [0, 1, 2, 3, 4, 5, 6, 7, 8, 9, 10, 11, 12, 13, 14, 15, 16, 17, 18, 19, 20], some 87⟩, ⟨[25], [], [30], [0, 1, 2, 3, 4, 5, 6, 7, 8, 9, 10, 11, 12, 13, 14, 15, 16, 17, 18, 19, 20, 21], some 88⟩, ⟨[30], [], [31], [0, 1, 2, 3, 4, 5, 6, 7, 8, 9, 10, 11, 12, 13, 14, 15, 16, 17, 18, 19, 20, 21, 22], some 89⟩, ⟨[30], [], [32], [0, 1, 2, 3, 4, 5, 6, 7, 8, 9, 10, 11, 12, 13, 14, 15, 16, 17, 18, 19, 20, 21, 22, 23], some 90⟩, ⟨[30], [], [33], [0, 1, 2, 3, 4, 5, 6, 7, 8, 9, 10, 11, 12, 13, 14, 15, 16, 17, 18, 19, 20, 21, 22, 23, 24], some 91⟩, ⟨[25], [], [34], [0, 1, 2, 3, 4, 5, 6, 7, 8, 9, 10, 11, 12, 13, 14, 15, 16, 17, 18, 19, 20, 21, 22, 23, 24, 25], some 92⟩, ⟨[25], [], [35], [0, 1, 2, 3, 4, 5, 6, 7, 8, 9, 10, 11, 12, 13, 14, 15, 16, 17, 18, 19, 20, 21, 22, 23, 24, 25, 26], some 93⟩, ⟨[25], [], [36], [0, 1, 2, 3, 4, 5, 6, 7, 8, 9, 10, 11, 12, 13, 14, 15, 16, 17, 18, 19, 20, 21, 22, 23, 24, 25, 26, 27], some 94⟩, ⟨[36], [], [37], [0, 1, 2, 3, 4, 5, 6, 7, 8, 9, 10, 11, 12, 13, 14, 15, 16, 17, 18, 19, 20, 21, 22, 23, 24, 25, 26, 27, 28], some 4⟩] [37, 11] mixed hn hG h (by kernel_rfl) ?_ ?_
                      · exact ⟨⟨rfl, fun β => (GOk.plain (op_call Tryd.call11 (law04_awake_ok hr38) trivial) rfl)⟩, ⟨rfl, fun β => (GOk.plain (op_move (opt 0 rfl)) rfl)⟩, ⟨rfl, fun β => (GOk.on_eq hb43 rfl rfl rfl (op_move (opt 0 rfl)))⟩, ⟨rfl, fun β => (GOk.on_eq hb43 rfl rfl rfl (op_call Tryd.call15 (digest_Log_Count_oke hr39) ⟨(opt 0 rfl), trivial⟩))⟩, ⟨rfl, fun β => (GOk.on_eq hb43 rfl rfl rfl (op_bin bin_eql (opt 0 rfl) (opc (ic (by decide)))))⟩, ⟨rfl, fun β => (GOk.on_eq hb43 rfl rfl rfl (op_move (opt 0 rfl)))⟩, ⟨rfl, fun β => (GOk.on_eq hb43 rfl rfl rfl (op_bin (bin_beql Tryd.underlying4) (opt 0 rfl) (opt 1 rfl)))⟩, ⟨rfl, fun β => (GOk.plain (op_pick_t hb43 (opt 0 rfl) (opt 1 rfl)) rfl)⟩, ⟨rfl, fun β => (GOk.plain (op_move (opt 0 rfl)) rfl)⟩, ⟨rfl, fun β => (GOk.on_eq hb44 rfl rfl rfl (op_move (opt 0 rfl)))⟩, ⟨rfl, fun β => (GOk.on_eq hb44 rfl rfl rfl (op_un (un_not _) (opt 0 rfl)))⟩, ⟨rfl, fun β => (GOk.on_eq hb44 rfl rfl rfl (op_move (opt 0 rfl)))⟩, ⟨rfl, fun β => (GOk.on_eq hb45 rfl rfl rfl (op_load_lb [] [bytesCk 32 r10.1] [] 1 Tryd.isAgg24 Tryd.sizeOf24 (opt 0 rfl) rfl rfl rfl))⟩, ⟨rfl, fun β => (GOk.on_eq hb45 rfl rfl rfl (op_load_lb [] [bytesCk 32 r11.1] [] 1 Tryd.isAgg24 Tryd.sizeOf24 (opt 0 rfl) rfl rfl rfl))⟩, ⟨rfl, fun β => (GOk.on_eq hb45 rfl rfl rfl (op_bin (bin_aeql Tryd.underlying24 Tryd.underlying5 Tryd.type5 Tryd.sizeOf5 Tryd.isAgg5 Tryd.eqGuardType24) (opt 0 rfl) (opt 1 rfl)))⟩, ⟨rfl, fun β => (GOk.on_eq hb44 rfl rfl rfl (op_pick_f hb45 (opt 0 rfl) (opt 1 rfl)))⟩, ⟨rfl, fun β => (GOk.plain (op_pick_t hb44 (opt 0 rfl) (opt 1 rfl)) rfl)⟩, ⟨rfl, fun β => (GOk.plain (op_move (opt 0 rfl)) rfl)⟩, ⟨rfl, fun β => (GOk.off_v (want := true) hb46 rfl rfl rfl rfl)⟩, ⟨rfl, fun β => (GOk.off_v (want := true) hb46 rfl rfl rfl rfl)⟩, ⟨rfl, fun β => (GOk.off_v (want := true) hb46 rfl rfl rfl rfl)⟩, ⟨rfl, fun β => (GOk.off_v (want := true) hb46 rfl rfl rfl rfl)⟩, ⟨rfl, fun β => (GOk.off_v (want := true) hb46 rfl rfl rfl rfl)⟩, ⟨rfl, fun β => (GOk.off_u rfl rfl rfl rfl)⟩, ⟨rfl, fun β => (GOk.off_u rfl rfl rfl rfl)⟩, ⟨rfl, fun β => (GOk.off_u rfl rfl rfl rfl)⟩, ⟨rfl, fun β => (GOk.off_v (want := true) hb46 rfl rfl rfl rfl)⟩, ⟨rfl, fun β => (GOk.off_v (want := true) hb46 rfl rfl rfl rfl)⟩, ⟨rfl, fun β => (GOk.plain (op_pick_f hb46 (opt 0 rfl) (opc (bc _))) rfl)⟩, ⟨rfl, fun β => (GOk.plain (op_assign (opt 0 rfl)) rfl)⟩, trivial⟩
                      clear h
                      intro β a w h
                      change SatL c [.slot 4 (boolVP false), .res (Log_e p9 r11.2)] a w at h
                      clear β
                      exact ⟨false, hF, h.sub [0, 1] (by rfl)⟩
                · replace hF := ff_of hb44 hF
                  refine region_do (n := 95) [.slot 66 100000 100000 (fun _ _ => (boolVP r38)),
      .slot 67 100000 100000 (fun _ _ => (boolVP r38)),
      .slot 68 100000 100000 (fun _ _ => (eqVP p9)),
      .slot 69 100000 100000 (fun _ _ => (intVP .i64 r39)),
      .res 100000 100000 (fun _ _ => (Log_e p9 r11.2)),
      .slot 70 100000 100000 (fun _ _ => (boolVP (decide (r39 = (1 : Int))))),
      .slot 71 100000 100000 (fun _ _ => (boolVP y36)),
      .slot 72 100000 100000 (fun _ _ => (boolVP ((decide (r39 = (1 : Int))) == y36))),
      .slot 73 100000 100000 (fun _ _ => (boolVP ((decide (r39 = (1 : Int))) == y36))),
      .slot 74 100000 100000 (fun _ _ => (boolVP ((decide (r39 = (1 : Int))) == y36))),
      .slot 75 100000 100000 (fun _ _ => (eqVP undef)),
      .slot 76 100000 100000 (fun _ _ => (eqVP undef)),
      .slot 77 100000 100000 (fun _ _ => (eqVP undef)),
      .slot 78 100000 100000 (fun _ _ => (eqVP undef)),
      .slot 79 100000 100000 (fun _ _ => (eqVP undef)),
      .slot 80 100000 100000 (fun _ _ => (eqVP undef)),
      .slot 81 100000 100000 (fun _ _ => (eqVP undef)),
      .slot 82 100000 100000 (fun _ _ => (boolVP false)),
      .slot 83 100000 100000 (fun _ _ => (boolVP false)),
      .slot 84 100000 100000 (fun _ _ => (eqVP undef)),
      .slot 85 100000 100000 (fun _ _ => (eqVP undef)),
      .slot 86 100000 100000 (fun _ _ => (eqVP undef)),
      .slot 87 100000 100000 (fun _ _ => (eqVP undef)),
      .slot 88 100000 100000 (fun _ _ => (eqVP undef)),
      .slot 89 100000 100000 (fun _ _ => (eqVP undef)),
      .slot 90 100000 100000 (fun _ _ => (eqVP undef)),
      .slot 91 100000 100000 (fun _ _ => (eqVP undef)),
      .slot 92 100000 100000 (fun _ _ => (eqVP undef)),
      .slot 93 100000 100000 (fun _ _ => (eqVP undef)),
      .slot 94 100000 100000 (fun _ _ => (boolVP false)),
      .slot 4 100000 100000 (fun _ _ => (boolVP false))] [0, 1, 2, 3, 3, 4, 5, 6, 7, 8, 9, 10, 11, 12, 13, 14, 15, 16, 17, 18, 19, 20, 21, 22, 23, 24, 25, 26, 27, 28, 29] [⟨[], [], [7], [], some 66⟩, ⟨[7], [], [8], [0], some 67⟩, ⟨[8, 0], [], [9], [0, 1], some 68⟩, ⟨[8, 9], [4], [10, 11], [0, 1, 2], some 69⟩, ⟨[8, 10], [], [12], [0, 1, 2, 3], some 70⟩, ⟨[8, 3], [], [13], [0, 1, 2, 3, 4], some 71⟩, ⟨[8, 12, 13], [], [14], [0, 1, 2, 3, 4, 5], some 72⟩, ⟨[8, 14], [], [15], [0, 1, 2, 3, 4, 5, 6], some 73⟩, ⟨[15], [], [16], [0, 1, 2, 3, 4, 5, 6, 7], some 74⟩, ⟨[16], [], [17], [0, 1, 2, 3, 4, 5, 6, 7, 8], some 75⟩, ⟨[16], [], [18], [0, 1, 2, 3, 4, 5, 6, 7, 8, 9], some 76⟩, ⟨[16], [], [19], [0, 1, 2, 3, 4, 5, 6, 7, 8, 9, 10], some 77⟩, ⟨[19], [], [20], [0, 1, 2, 3, 4, 5, 6, 7, 8, 9, 10, 11], some 78⟩, ⟨[19], [], [21], [0, 1, 2, 3, 4, 5, 6, 7, 8, 9, 10, 11, 12], some 79⟩, ⟨[19], [], [22], [0, 1, 2, 3, 4, 5, 6, 7, 8, 9, 10, 11, 12, 13], some 80⟩, ⟨[16], [], [23], [0, 1, 2, 3, 4, 5, 6, 7, 8, 9, 10, 11, 12, 13, 14], some 81⟩, ⟨[16], [], [24], [0, 1, 2, 3, 4, 5, 6, 7, 8, 9, 10, 11, 12, 13, 14, 15], some 82⟩, ⟨[24], [], [25], [0, 1, 2, 3, 4, 5, 6, 7, 8, 9, 10, 11, 12, 13, 14, 15, 16], some 83⟩, ⟨[25], [], [26], [0, 1, 2, 3, 4, 5, 6, 7, 8, 9, 10, 11, 12, 13, 14, 15, 16, 17], some 84⟩, ⟨[25], [], [27], [0, 1, 2, 3, 4, 5, 6, 7, 8, 9, 10, 11, 12, 13, 14, 15, 16, 17, 18], some 85⟩, ⟨[25], [], [28], [0, 1, 2, 3, 4, 5, 6, 7, 8, 9, 10, 11, 12, 13, 14, 15, 16, 17, 18, 19], some 86⟩, ⟨[25], [], [29], [0, 1, 2, 3, 4, 5, 6, 7, 8, 9, 10, 11, 12, 13, 14, 15, 16, 17, 18, 19, 20], some 87⟩, ⟨[25], [], [30], [0, 1, 2, 3, 4, 5, 6, 7, 8, 9, 10, 11, 12, 13, 14, 15, 16, 17, 18, 19, 20, 21], some 88⟩, ⟨[30], [], [31], [0, 1, 2, 3, 4, 5, 6, 7, 8, 9, 10, 11, 12, 13, 14, 15, 16, 17, 18, 19, 20, 21, 22], some 89⟩, ⟨[30], [], [32], [0, 1, 2, 3, 4, 5, 6, 7, 8, 9, 10, 11, 12, 13, 14, 15, 16, 17, 18, 19, 20, 21, 22, 23], some 90⟩, ⟨[30], [], [33], [0, 1, 2, 3, 4, 5, 6, 7, 8, 9, 10, 11, 12, 13, 14, 15, 16, 17, 18, 19, 20, 21, 22, 23, 24], some 91⟩, ⟨[25], [], [34], [0, 1, 2, 3, 4, 5, 6, 7, 8, 9, 10, 11, 12, 13, 14, 15, 16, 17, 18, 19, 20, 21, 22, 23, 24, 25], some 92⟩, ⟨[25], [], [35], [0, 1, 2, 3, 4, 5, 6, 7, 8, 9, 10, 11, 12, 13, 14, 15, 16, 17, 18, 19, 20, 21, 22, 23, 24, 25, 26], some 93⟩, ⟨[25], [], [36], [0, 1, 2, 3, 4, 5, 6, 7, 8, 9, 10, 11, 12, 13, 14, 15, 16, 17, 18, 19, 20, 21, 22, 23, 24, 25, 26, 27], some 94⟩, ⟨[36], [], [37], [0, 1, 2, 3, 4, 5, 6, 7, 8, 9, 10, 11, 12, 13, 14, 15, 16, 17, 18, 19, 20, 21, 22, 23, 24, 25, 26, 27, 28], some 4⟩] [37, 11] mixed hn hG h (by kernel_rfl) ?_ ?_
                  · exact ⟨⟨rfl, fun β => (GOk.plain (op_call Tryd.call11 (law04_awake_ok hr38) trivial) rfl)⟩, ⟨rfl, fun β => (GOk.plain (op_move (opt 0 rfl)) rfl)⟩, ⟨rfl, fun β => (GOk.on_eq hb43 rfl rfl rfl (op_move (opt 0 rfl)))⟩, ⟨rfl, fun β => (GOk.on_eq hb43 rfl rfl rfl (op_call Tryd.call15 (digest_Log_Count_oke hr39) ⟨(opt 0 rfl), trivial⟩))⟩, ⟨rfl, fun β => (GOk.on_eq hb43 rfl rfl rfl (op_bin bin_eql (opt 0 rfl) (opc (ic (by decide)))))⟩, ⟨rfl, fun β => (GOk.on_eq hb43 rfl rfl rfl (op_move (opt 0 rfl)))⟩, ⟨rfl, fun β => (GOk.on_eq hb43 rfl rfl rfl (op_bin (bin_beql Tryd.underlying4) (opt 0 rfl) (opt 1 rfl)))⟩, ⟨rfl, fun β => (GOk.plain (op_pick_t hb43 (opt 0 rfl) (opt 1 rfl)) rfl)⟩, ⟨rfl, fun β => (GOk.plain (op_move (opt 0 rfl)) rfl)⟩, ⟨rfl, fun β => (GOk.off_v (want := true) hb44 rfl rfl rfl rfl)⟩, ⟨rfl, fun β => (GOk.off_v (want := true) hb44 rfl rfl rfl rfl)⟩, ⟨rfl, fun β => (GOk.off_v (want := true) hb44 rfl rfl rfl rfl)⟩, ⟨rfl, fun β => (GOk.off_u rfl rfl rfl rfl)⟩, ⟨rfl, fun β => (GOk.off_u rfl rfl rfl rfl)⟩, ⟨rfl, fun β => (GOk.off_u rfl rfl rfl rfl)⟩, ⟨rfl, fun β => (GOk.off_v (want := true) hb44 rfl rfl rfl rfl)⟩, ⟨rfl, fun β => (GOk.plain (op_pick_f hb44 (opt 0 rfl) (opc (bc _))) rfl)⟩, ⟨rfl, fun β => (GOk.plain (op_move (opt 0 rfl)) rfl)⟩, ⟨rfl, fun β => (GOk.off_v (want := true) rfl rfl rfl rfl rfl)⟩, ⟨rfl, fun β => (GOk.off_v (want := true) rfl rfl rfl rfl rfl)⟩, ⟨rfl, fun β => (GOk.off_v (want := true) rfl rfl rfl rfl rfl)⟩, ⟨rfl, fun β => (GOk.off_v (want := true) rfl rfl rfl rfl rfl)⟩, ⟨rfl, fun β => (GOk.off_v (want := true) rfl rfl rfl rfl rfl)⟩, ⟨rfl, fun β => (GOk.off_u rfl rfl rfl rfl)⟩, ⟨rfl, fun β => (GOk.off_u rfl rfl rfl rfl)⟩, ⟨rfl, fun β => (GOk.off_u rfl rfl rfl rfl)⟩, ⟨rfl, fun β => (GOk.off_v (want := true) rfl rfl rfl rfl rfl)⟩, ⟨rfl, fun β => (GOk.off_v (want := true) rfl rfl rfl rfl rfl)⟩, ⟨rfl, fun β => (GOk.plain (op_pick_f rfl (opt 0 rfl) (opc (bc _))) rfl)⟩, ⟨rfl, fun β => (GOk.plain (op_assign (opt 0 rfl)) rfl)⟩, trivial⟩
                  clear h
                  intro β a w h
                  change SatL c [.slot 4 (boolVP false), .res (Log_e p9 r11.2)] a w at h
                  clear β
                  exact ⟨false, hF, h.sub [0, 1] (by rfl)⟩
              · replace hF := ff_of hb43 hF
                refine region_do (n := 95) [.slot 66 100000 100000 (fun _ _ => (boolVP r38)),
      .slot 67 100000 100000 (fun _ _ => (boolVP r38)),
      .slot 68 100000 100000 (fun _ _ => (eqVP undef)),
      .slot 69 100000 100000 (fun _ _ => (eqVP undef)),
      .slot 70 100000 100000 (fun _ _ => (eqVP undef)),
      .slot 71 100000 100000 (fun _ _ => (eqVP undef)),
      .slot 72 100000 100000 (fun _ _ => (eqVP undef)),
      .slot 73 100000 100000 (fun _ _ => (boolVP false)),
      .slot 74 100000 100000 (fun _ _ => (boolVP false)),
      .slot 75 100000 100000 (fun _ _ => (eqVP undef)),
      .slot 76 100000 100000 (fun _ _ => (eqVP undef)),
      .slot 77 100000 100000 (fun _ _ => (eqVP undef)),
      .slot 78 100000 100000 (fun _ _ => (eqVP undef)),
      .slot 79 100000 100000 (fun _ _ => (eqVP undef)),
      .slot 80 100000 100000 (fun _ _ => (eqVP undef)),
      .slot 81 100000 100000 (fun _ _ => (eqVP undef)),
      .slot 82 100000 100000 (fun _ _ => (boolVP false)),
      .slot 83 100000 100000 (fun _ _ => (boolVP false)),
      .slot 84 100000 100000 (fun _ _ => (eqVP undef)),
      .slot 85 100000 100000 (fun _ _ => (eqVP undef)),
      .slot 86 100000 100000 (fun _ _ => (eqVP undef)),
      .slot 87 100000 100000 (fun _ _ => (eqVP undef)),
      .slot 88 100000 100000 (fun _ _ => (eqVP undef)),
      .slot 89 100000 100000 (fun _ _ => (eqVP undef)),
      .slot 90 100000 100000 (fun _ _ => (eqVP undef)),
      .slot 91 100000 100000 (fun _ _ => (eqVP undef)),
      .slot 92 100000 100000 (fun _ _ => (eqVP undef)),
      .slot 93 100000 100000 (fun _ _ => (eqVP undef)),
      .slot 94 100000 100000 (fun _ _ => (boolVP false)),
      .slot 4 100000 100000 (fun _ _ => (boolVP false))] [0, 1, 2, 3, 4, 5, 6, 7, 8, 9, 10, 11, 12, 13, 14, 15, 16, 17, 18, 19, 20, 21, 22, 23, 24, 25, 26, 27, 28, 29] [⟨[], [], [7], [], some 66⟩, ⟨[7], [], [8], [0], some 67⟩, ⟨[8], [], [9], [0, 1], some 68⟩, ⟨[8], [], [10], [0, 1, 2], some 69⟩, ⟨[8], [], [11], [0, 1, 2, 3], some 70⟩, ⟨[8], [], [12], [0, 1, 2, 3, 4], some 71⟩, ⟨[8], [], [13], [0, 1, 2, 3, 4, 5], some 72⟩, ⟨[8], [], [14], [0, 1, 2, 3, 4, 5, 6], some 73⟩, ⟨[14], [], [15], [0, 1, 2, 3, 4, 5, 6, 7], some 74⟩, ⟨[15], [], [16], [0, 1, 2, 3, 4, 5, 6, 7, 8], some 75⟩, ⟨[15], [], [17], [0, 1, 2, 3, 4, 5, 6, 7, 8, 9], some 76⟩, ⟨[15], [], [18], [0, 1, 2, 3, 4, 5, 6, 7, 8, 9, 10], some 77⟩, ⟨[18], [], [19], [0, 1, 2, 3, 4, 5, 6, 7, 8, 9, 10, 11], some 78⟩, ⟨[18], [], [20], [0, 1, 2, 3, 4, 5, 6, 7, 8, 9, 10, 11, 12], some 79⟩, ⟨[18], [], [21], [0, 1, 2, 3, 4, 5, 6, 7, 8, 9, 10, 11, 12, 13], some 80⟩, ⟨[15], [], [22], [0, 1, 2, 3, 4, 5, 6, 7, 8, 9, 10, 11, 12, 13, 14], some 81⟩, ⟨[15], [], [23], [0, 1, 2, 3, 4, 5, 6, 7, 8, 9, 10, 11, 12, 13, 14, 15], some 82⟩, ⟨[23], [], [24], [0, 1, 2, 3, 4, 5, 6, 7, 8, 9, 10, 11, 12, 13, 14, 15, 16], some 83⟩, ⟨[24], [], [25], [0, 1, 2, 3, 4, 5, 6, 7, 8, 9, 10, 11, 12, 13, 14, 15, 16, 17], some 84⟩, ⟨[24], [], [26], [0, 1, 2, 3, 4, 5, 6, 7, 8, 9, 10, 11, 12, 13, 14, 15, 16, 17, 18], some 85⟩, ⟨[24], [], [27], [0, 1, 2, 3, 4, 5, 6, 7, 8, 9, 10, 11, 12, 13, 14, 15, 16, 17, 18, 19], some 86⟩, ⟨[24], [], [28], [0, 1, 2, 3, 4, 5, 6, 7, 8, 9, 10, 11, 12, 13, 14, 15, 16, 17, 18, 19, 20], some 87⟩, ⟨[24], [], [29], [0, 1, 2, 3, 4, 5, 6, 7, 8, 9, 10, 11, 12, 13, 14, 15, 16, 17, 18, 19, 20, 21], some 88⟩, ⟨[29], [], [30], [0, 1, 2, 3, 4, 5, 6, 7, 8, 9, 10, 11, 12, 13, 14, 15, 16, 17, 18, 19, 20, 21, 22], some 89⟩, ⟨[29], [], [31], [0, 1, 2, 3, 4, 5, 6, 7, 8, 9, 10, 11, 12, 13, 14, 15, 16, 17, 18, 19, 20, 21, 22, 23], some 90⟩, ⟨[29], [], [32], [0, 1, 2, 3, 4, 5, 6, 7, 8, 9, 10, 11, 12, 13, 14, 15, 16, 17, 18, 19, 20, 21, 22, 23, 24], some 91⟩, ⟨[24], [], [33], [0, 1, 2, 3, 4, 5, 6, 7, 8, 9, 10, 11, 12, 13, 14, 15, 16, 17, 18, 19, 20, 21, 22, 23, 24, 25], some 92⟩, ⟨[24], [], [34], [0, 1, 2, 3, 4, 5, 6, 7, 8, 9, 10, 11, 12, 13, 14, 15, 16, 17, 18, 19, 20, 21, 22, 23, 24, 25, 26], some 93⟩, ⟨[24], [], [35], [0, 1, 2, 3, 4, 5, 6, 7, 8, 9, 10, 11, 12, 13, 14, 15, 16, 17, 18, 19, 20, 21, 22, 23, 24, 25, 26, 27], some 94⟩, ⟨[35], [], [36], [0, 1, 2, 3, 4, 5, 6, 7, 8, 9, 10, 11, 12, 13, 14, 15, 16, 17, 18, 19, 20, 21, 22, 23, 24, 25, 26, 27, 28], some 4⟩] [36, 4] mixed hn hG h (by kernel_rfl) ?_ ?_
                · exact ⟨⟨rfl, fun β => (GOk.plain (op_call Tryd.call11 (law04_awake_ok hr38) trivial) rfl)⟩, ⟨rfl, fun β => (GOk.plain (op_move (opt 0 rfl)) rfl)⟩, ⟨rfl, fun β => (GOk.off_v (want := true) hb43 rfl rfl rfl rfl)⟩, ⟨rfl, fun β => (GOk.off_v (want := true) hb43 rfl rfl rfl rfl)⟩, ⟨rfl, fun β => (GOk.off_v (want := true) hb43 rfl rfl rfl rfl)⟩, ⟨rfl, fun β => (GOk.off_v (want := true) hb43 rfl rfl rfl rfl)⟩, ⟨rfl, fun β => (GOk.off_v (want := true) hb43 rfl rfl rfl rfl)⟩, ⟨rfl, fun β => (GOk.plain (op_pick_f hb43 (opt 0 rfl) (opc (bc _))) rfl)⟩, ⟨rfl, fun β => (GOk.plain (op_move (opt 0 rfl)) rfl)⟩, ⟨rfl, fun β => (GOk.off_v (want := true) rfl rfl rfl rfl rfl)⟩, ⟨rfl, fun β => (GOk.off_v (want := true) rfl rfl rfl rfl rfl)⟩, ⟨rfl, fun β => (GOk.off_v (want := true) rfl rfl rfl rfl rfl)⟩, ⟨rfl, fun β => (GOk.off_u rfl rfl rfl rfl)⟩, ⟨rfl, fun β => (GOk.off_u rfl rfl rfl rfl)⟩, ⟨rfl, fun β => (GOk.off_u rfl rfl rfl rfl)⟩, ⟨rfl, fun β => (GOk.off_v (want := true) rfl rfl rfl rfl rfl)⟩, ⟨rfl, fun β => (GOk.plain (op_pick_f rfl (opt 0 rfl) (opc (bc _))) rfl)⟩, ⟨rfl, fun β => (GOk.plain (op_move (opt 0 rfl)) rfl)⟩, ⟨rfl, fun β => (GOk.off_v (want := true) rfl rfl rfl rfl rfl)⟩, ⟨rfl, fun β => (GOk.off_v (want := true) rfl rfl rfl rfl rfl)⟩, ⟨rfl, fun β => (GOk.off_v (want := true) rfl rfl rfl rfl rfl)⟩, ⟨rfl, fun β => (GOk.off_v (want := true) rfl rfl rfl rfl rfl)⟩, ⟨rfl, fun β => (GOk.off_v (want := true) rfl rfl rfl rfl rfl)⟩, ⟨rfl, fun β => (GOk.off_u rfl rfl rfl rfl)⟩, ⟨rfl, fun β => (GOk.off_u rfl rfl rfl rfl)⟩, ⟨rfl, fun β => (GOk.off_u rfl rfl rfl rfl)⟩, ⟨rfl, fun β => (GOk.off_v (want := true) rfl rfl rfl rfl rfl)⟩, ⟨rfl, fun β => (GOk.off_v (want := true) rfl rfl rfl rfl rfl)⟩, ⟨rfl, fun β => (GOk.plain (op_pick_f rfl (opt 0 rfl) (opc (bc _))) rfl)⟩, ⟨rfl, fun β => (GOk.plain (op_assign (opt 0 rfl)) rfl)⟩, trivial⟩
                clear h
                intro β a w h
                change SatL c [.slot 4 (boolVP false), .res (Log_e p9 r11.2)] a w at h
                clear β
                exact ⟨false, hF, h.sub [0, 1] (by rfl)⟩
            · clear h hF
              rintro a w ⟨x42, hF, h⟩
              unfold law04_DigestInputs.j3 at hF
              show Code.wp Tryd.prog _ _ a w
              refine wp_ret ?_
              obtain rfl := Option.some.inj hF
              exact ⟨.inl rfl, ret1 h Tryd.results3 (r_tmp 0 rfl) [] [] rfl rfl rfl⟩
end Go.Proofs.YtbhehllkimedaaaDoor
