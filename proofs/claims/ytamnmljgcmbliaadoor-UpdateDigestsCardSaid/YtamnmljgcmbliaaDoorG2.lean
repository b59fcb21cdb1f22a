/- The functions' Lean twins and contracts, printed by this session's own program: part 2. -/
import Derived.Test.YtamnmljgcmbliaaDoorG1
namespace Go.Proofs.YtamnmljgcmbliaaDoor
open Go Go.RowKit Go.Proofs
set_option maxRecDepth 100000
set_option linter.unusedVariables false
def strings_Builder_String (L_0 : O_Bld) : Option (List UInt8) := (if L_0.f_buf ≠ [] then some L_0.f_buf else none)
theorem strings_Builder_String_ok {p_0 : Value} {L_0 : O_Bld} {r : (List UInt8)} (hF : strings_Builder_String L_0 = some r) : CallOk Tryd.prog KG 88 [(eqVP p_0)] [(Bld_e p_0 (some L_0))] (fun _ => []) (strVP r) := by
  refine CallOk.intro 14 Tryd.func88 rfl Tryd.ntmps88 (Nat.le_of_ble_eq_true rfl) ?_
  intro c a w hG hn h
  unfold strings_Builder_String at hF
  change SatL c [.slot 0 (eqVP p_0), .res (Bld_e p_0 (some L_0))] a w at h
  obtain ⟨h_0_1, h⟩ := h.ex 1 rfl
  change SatL c [.slot 0 (eqVP p_0), .res (Bld_o p_0 h_0_1 (some L_0))] a w at h
  have hp := h.isp 1 rfl (fun Φ f w q => Bld_lp Φ f w q)
  replace h := h.slotc 0 rfl (V' := lpVP p_0 0) (fun _ _ h => eq_lp h hp)
  replace h := h.sep (R := lb p_0 143 [one (selfVP p_0), one (eqVP h_0_1)]) (S := (acc h_0_1 5 1 bC L_0.f_buf)) 1 rfl
  replace h := h.sub [0, 1, 2] (by rfl)
  change SatL c [.slot 0 (lpVP p_0 0), .res (lb p_0 143 [one (selfVP p_0), one (eqVP h_0_1)]), .res (acc h_0_1 5 1 bC L_0.f_buf)] a w at h
  refine wp_seq ?_
  refine region_do (n := 14) [.slot 2 100000 100000 (fun _ _ => (strVP []))] [0] [⟨[], [], [3], [], some 2⟩] [0, 1, 2] mixed hn hG h (by kernel_rfl) ?_ ?_
  · exact ⟨⟨rfl, fun β => (GOk.plain (op_assign (opc (sc _ (by decide)))) rfl)⟩, trivial⟩
  clear h
  intro β a w h
  change SatL c [.slot 0 (lpVP p_0 0), .res (lb p_0 143 [one (selfVP p_0), one (eqVP h_0_1)]), .res (acc h_0_1 5 1 bC L_0.f_buf)] a w at h
  clear β
  show Code.wp Tryd.prog _ _ a w
  refine wp_seq ?_
  obtain ⟨hv1, hF⟩ := ite_some hF
  refine region_do (n := 14) [.slot 3 100000 100000 (fun _ _ => (lpVP p_0 0)),
      .slot 4 100000 100000 (fun _ _ => (lpVP p_0 0)),
      .slot 5 100000 100000 (fun _ _ => (lpVP p_0 1)),
      .slot 6 100000 100000 (fun _ _ => (eqVP h_0_1)),
      .slot 7 100000 100000 (fun _ _ => (eqVP (usd h_0_1))),
      .slot 8 100000 100000 (fun _ _ => (lpVP p_0 0)),
      .slot 9 100000 100000 (fun _ _ => (lpVP p_0 0)),
      .slot 10 100000 100000 (fun _ _ => (lpVP p_0 1)),
      .slot 11 100000 100000 (fun _ _ => (eqVP h_0_1)),
      .slot 12 100000 100000 (fun _ _ => (intVP .i64 (L_0.f_buf.length : Int))),
      .slot 13 100000 100000 (fun _ _ => (strVP L_0.f_buf)),
      .slot 2 100000 100000 (fun _ _ => (strVP L_0.f_buf))] [0, 1, 2, 3, 4, 5, 6, 7, 8, 9, 10, 11] [⟨[0], [], [3], [], some 3⟩, ⟨[3], [], [4], [0], some 4⟩, ⟨[4], [], [5], [0, 1], some 5⟩, ⟨[5, 1], [], [6], [0, 1, 2], some 6⟩, ⟨[6, 2], [], [7], [0, 1, 2, 3], some 7⟩, ⟨[0], [], [8], [], some 8⟩, ⟨[8], [], [9], [5], some 9⟩, ⟨[9], [], [10], [5, 6], some 10⟩, ⟨[10, 1], [], [11], [5, 6, 7], some 11⟩, ⟨[11, 2], [], [12], [5, 6, 7, 8], some 12⟩, ⟨[7, 12], [2], [13], [0, 1, 2, 3, 4, 5, 6, 7, 8, 9], some 13⟩, ⟨[13], [], [14], [0, 1, 2, 3, 4, 5, 6, 7, 8, 9, 10], some 2⟩] [14, 1] mixed hn hG h (by kernel_rfl) ?_ ?_
  · exact ⟨⟨rfl, fun β => (GOk.plain (op_move (opt 0 rfl)) rfl)⟩, ⟨rfl, fun β => (GOk.plain (op_nilCheck (opt 0 rfl) (ptr_lp _ _)) rfl)⟩, ⟨rfl, fun β => (GOk.plain (op_fieldAddr_lbm (p := p_0) (n := 1) 0 1 Tryd.underlying143 rfl Tryd.sizeOf129 (by decide) (opt 0 rfl) rfl) rfl)⟩, ⟨rfl, fun β => (GOk.plain (op_load_lb1 [one (selfVP p_0)] [] 1 Tryd.isAgg129 (opt 0 rfl) rfl rfl) rfl)⟩, ⟨rfl, fun β => (GOk.plain (op_usd 1 (opt 0 rfl) rfl hv1) rfl)⟩, ⟨rfl, fun β => (GOk.plain (op_move (opt 0 rfl)) rfl)⟩, ⟨rfl, fun β => (GOk.plain (op_nilCheck (opt 0 rfl) (ptr_lp _ _)) rfl)⟩, ⟨rfl, fun β => (GOk.plain (op_fieldAddr_lbm (p := p_0) (n := 1) 0 1 Tryd.underlying143 rfl Tryd.sizeOf129 (by decide) (opt 0 rfl) rfl) rfl)⟩, ⟨rfl, fun β => (GOk.plain (op_load_lb1 [one (selfVP p_0)] [] 1 Tryd.isAgg129 (opt 0 rfl) rfl rfl) rfl)⟩, ⟨rfl, fun β => (GOk.plain (op_len_sl Tryd.underlying129 (opacc 0 1 rfl rfl)) rfl)⟩, ⟨rfl, fun β => (GOk.plain (op_ustr Tryd.underlying164 (by kernel_rfl) (opt 0 rfl) (opt 1 rfl) hv1) rfl)⟩, ⟨rfl, fun β => (GOk.plain (op_assign (opt 0 rfl)) rfl)⟩, trivial⟩
  clear h
  intro β a w h
  change SatL c [.slot 2 (strVP L_0.f_buf), .res (lb p_0 143 [one (selfVP p_0), one (eqVP h_0_1)])] a w at h
  clear β
  show Code.wp Tryd.prog _ _ a w
  refine wp_ret ?_
  obtain rfl := Option.some.inj hF
  exact ⟨.inl rfl, ret1 h Tryd.results88 (r_tmp 0 rfl) [] [] rfl rfl rfl⟩

def strings_Builder_WriteByte (L_0 : O_Bld) (a_1 : Int) : Option (Value × O_Bld) := (if L_0.f_buf.length + [u8of a_1].length ≤ mxl ∧ (L_0.f_buf.length + [u8of a_1].length) * 1 ≤ 140737488355328 then some (Value.nilIface, ⟨L_0.f_buf ++ [u8of a_1]⟩) else none)
theorem strings_Builder_WriteByte_ok {p_0 : Value} {L_0 : O_Bld} {a_1 : Int} {r : Value × O_Bld} (hF : strings_Builder_WriteByte L_0 a_1 = some r) : CallOk Tryd.prog KG 93 [(eqVP p_0), (intVP .u8 a_1)] [(Bld_e p_0 (some L_0))] (fun _ => [Bld_e p_0 (some r.2)]) (eqVP r.1) := by
  refine CallOk.intro 17 Tryd.func93 rfl Tryd.ntmps93 (Nat.le_of_ble_eq_true rfl) ?_
  intro c a w hG hn h
  unfold strings_Builder_WriteByte at hF
  change SatL c [.slot 0 (eqVP p_0), .slot 1 (intVP .u8 a_1), .res (Bld_e p_0 (some L_0))] a w at h
  obtain ⟨h_0_1, h⟩ := h.ex 2 rfl
  change SatL c [.slot 0 (eqVP p_0), .slot 1 (intVP .u8 a_1), .res (Bld_o p_0 h_0_1 (some L_0))] a w at h
  have hp := h.isp 2 rfl (fun Φ f w q => Bld_lp Φ f w q)
  replace h := h.slotc 0 rfl (V' := lpVP p_0 0) (fun _ _ h => eq_lp h hp)
  replace h := h.sep (R := lb p_0 143 [one (selfVP p_0), one (eqVP h_0_1)]) (S := (acc h_0_1 5 1 bC L_0.f_buf)) 2 rfl
  replace h := h.sub [0, 1, 2, 3] (by rfl)
  change SatL c [.slot 0 (lpVP p_0 0), .slot 1 (intVP .u8 a_1), .res (lb p_0 143 [one (selfVP p_0), one (eqVP h_0_1)]), .res (acc h_0_1 5 1 bC L_0.f_buf)] a w at h
  refine wp_seq ?_
  refine region_do (n := 17) [.slot 4 100000 100000 (fun _ _ => (eqVP Value.nilIface))] [0] [⟨[], [], [4], [], some 4⟩] [0, 1, 2, 3] mixed hn hG h (by kernel_rfl) ?_ ?_
  · exact ⟨⟨rfl, fun β => (GOk.plain (op_assign (opc (ec _))) rfl)⟩, trivial⟩
  clear h
  intro β a w h
  change SatL c [.slot 0 (lpVP p_0 0), .slot 1 (intVP .u8 a_1), .res (lb p_0 143 [one (selfVP p_0), one (eqVP h_0_1)]), .res (acc h_0_1 5 1 bC L_0.f_buf)] a w at h
  clear β
  show Code.wp Tryd.prog _ _ a w
  refine wp_seq ?_
  refine region_do (n := 17) [.slot 5 100000 100000 (fun _ _ => (lpVP p_0 0)),
      .slot 6 100000 100000 (fun _ _ => (tupVP [])),
      .res 100000 100000 (fun _ _ => (lb p_0 143 [one (selfVP p_0), one (eqVP h_0_1)]))] [0, 1, 1] [⟨[0], [], [4], [], some 5⟩, ⟨[4], [2], [5, 6], [0], some 6⟩] [0, 1, 3, 6] mixed hn hG h (by kernel_rfl) ?_ ?_
  · exact ⟨⟨rfl, fun β => (GOk.plain (op_move (opt 0 rfl)) rfl)⟩, ⟨rfl, fun β => (GOk.plain (op_call Tryd.call100 copyCheck_ok ⟨(lp_eqo 0 rfl), trivial⟩) rfl)⟩, trivial⟩
  clear h
  intro β a w h
  change SatL c [.slot 0 (lpVP p_0 0), .slot 1 (intVP .u8 a_1), .res (acc h_0_1 5 1 bC L_0.f_buf), .res (lb p_0 143 [one (selfVP p_0), one (eqVP h_0_1)])] a w at h
  clear β
  show Code.wp Tryd.prog _ _ a w
  refine wp_seq ?_
  obtain ⟨hv1, hF⟩ := ite_some hF
  refine region_do (n := 17) [.slot 7 100000 100000 (fun _ _ => (lpVP p_0 0)),
      .slot 8 100000 100000 (fun _ _ => (lpVP p_0 0)),
      .slot 9 100000 100000 (fun _ _ => (lpVP p_0 0)),
      .slot 10 100000 100000 (fun _ _ => (lpVP p_0 1)),
      .slot 11 100000 100000 (fun _ _ => (eqVP h_0_1)),
      .slot 12 100000 100000 (fun _ _ => (intVP .u8 a_1)),
      .slot 13 100000 100000 (fun _ _ => (slVP bC [u8of a_1])),
      .slot 14 7 100000 (fun v1_ _ => (eqVP v1_)),
      .res 7 100000 (fun v1_ _ => (acc (v1_) 5 1 bC (L_0.f_buf ++ [u8of a_1]))),
      .slot 15 100000 100000 (fun _ _ => (lpVP p_0 0)),
      .slot 16 100000 100000 (fun _ _ => (lpVP p_0 1)),
      .res 7 100000 (fun v1_ _ => (lb p_0 143 [one (selfVP p_0), one (eqVP (v1_))]))] [0, 1, 2, 3, 4, 5, 6, 7, 7, 8, 9, 10] [⟨[0], [], [4], [], some 7⟩, ⟨[0], [], [5], [0], some 8⟩, ⟨[5], [], [6], [0, 1], some 9⟩, ⟨[6], [], [7], [0, 1, 2], some 10⟩, ⟨[7, 3], [], [8], [0, 1, 2, 3], some 11⟩, ⟨[1], [], [9], [0, 1, 2, 3, 4], some 12⟩, ⟨[9], [], [10], [0, 1, 2, 3, 4, 5], some 13⟩, ⟨[8, 10], [2], [11, 12], [0, 1, 2, 3, 4, 5, 6], some 14⟩, ⟨[4], [], [13], [0, 1, 2, 3, 4, 5, 6, 7], some 15⟩, ⟨[13], [], [14], [0, 1, 2, 3, 4, 5, 6, 7, 8], some 16⟩, ⟨[14, 11, 12], [3], [15], [0, 1, 2, 3, 4, 5, 6, 7, 8, 9], none⟩] [15, 12] mixed hn hG h (by kernel_rfl) ?_ ?_
  · exact ⟨⟨rfl, fun β => (GOk.plain (op_move (opt 0 rfl)) rfl)⟩, ⟨rfl, fun β => (GOk.plain (op_move (opt 0 rfl)) rfl)⟩, ⟨rfl, fun β => (GOk.plain (op_nilCheck (opt 0 rfl) (ptr_lp _ _)) rfl)⟩, ⟨rfl, fun β => (GOk.plain (op_fieldAddr_lbm (p := p_0) (n := 1) 0 1 Tryd.underlying143 rfl Tryd.sizeOf129 (by decide) (opt 0 rfl) rfl) rfl)⟩, ⟨rfl, fun β => (GOk.plain (op_load_lb1 [one (selfVP p_0)] [] 1 Tryd.isAgg129 (opt 0 rfl) rfl rfl) rfl)⟩, ⟨rfl, fun β => (GOk.plain (op_move (opt 0 rfl)) rfl)⟩, ⟨rfl, fun β => (GOk.plain (op_lit (xs := [.tmp 12]) (ys := [u8of a_1]) _ rfl Tryd.underlying129 Tryd.sizeOf5 Tryd.zeroValue5 rfl rfl (by decide) (by decide) ⟨⟨_, (opt 0 rfl), (cells_u8 _)⟩, trivial⟩ lens_bC) rfl)⟩, ⟨rfl, fun β => (GOk.plain (op_append (i := Tryd.t5) Tryd.underlying129 Tryd.type5 rfl lens_bC (by decide) rfl (opt 0 rfl) (opt 1 rfl) hv1) rfl)⟩, ⟨rfl, fun β => (GOk.plain (op_nilCheck (opt 0 rfl) (ptr_lp _ _)) rfl)⟩, ⟨rfl, fun β => (GOk.plain (op_fieldAddr_lbm (p := p_0) (n := 1) 0 1 Tryd.underlying143 rfl Tryd.sizeOf129 (by decide) (opt 0 rfl) rfl) rfl)⟩, ⟨rfl, fun β => (GOk.plain (op_store_lb [one (selfVP p_0)] [one (eqVP h_0_1)] [] [one (eqVP ((β 7)))] Tryd.sizeOf129 (opt 0 rfl) (opone 1 2 rfl rfl acc_one) (cells_h _) rfl rfl rfl) rfl)⟩, trivial⟩
  clear h
  intro β a w h
  change SatL c [.res (lb p_0 143 [one (selfVP p_0), one (eqVP (β 7))]), .res (acc (β 7) 5 1 bC (L_0.f_buf ++ [u8of a_1]))] a w at h
  generalize β 7 = p2 at h
  clear β
  show Code.wp Tryd.prog _ _ a w
  refine wp_seq ?_
  refine region_do (n := 17) [.slot 4 100000 100000 (fun _ _ => (eqVP Value.nilIface))] [0] [⟨[], [], [2], [], some 4⟩] [2, 0, 1] mixed hn hG h (by kernel_rfl) ?_ ?_
  · exact ⟨⟨rfl, fun β => (GOk.plain (op_assign (opc (ec _))) rfl)⟩, trivial⟩
  clear h
  intro β a w h
  change SatL c [.slot 4 (eqVP Value.nilIface), .res (lb p_0 143 [one (selfVP p_0), one (eqVP p2)]), .res (acc p2 5 1 bC (L_0.f_buf ++ [u8of a_1]))] a w at h
  clear β
  show Code.wp Tryd.prog _ _ a w
  refine wp_ret ?_
  replace h := h.unsep 1 2 rfl rfl (by decide)
  replace h := h.conv 1 rfl (R' := Bld_e p_0 (some ⟨L_0.f_buf ++ [u8of a_1]⟩)) (Bld_packo (v1 := p2) (o := (some ⟨L_0.f_buf ++ [u8of a_1]⟩)))
  replace h := h.sub [0, 1] (by rfl)
  change SatL c [.slot 4 (eqVP Value.nilIface), .res (Bld_e p_0 (some ⟨L_0.f_buf ++ [u8of a_1]⟩))] a w at h
  obtain rfl := Option.some.inj hF
  exact ⟨.inl rfl, ret1 h Tryd.results93 (r_tmp 0 rfl) [1] [(Bld_e p_0 (some ⟨L_0.f_buf ++ [u8of a_1]⟩))] rfl rfl rfl⟩

def strings_Builder_WriteString (L_0 : O_Bld) (a_1 : List UInt8) : Option (Int × Value × O_Bld) := (if L_0.f_buf.length + a_1.length ≤ mxl ∧ (L_0.f_buf.length + a_1.length) * 1 ≤ 140737488355328 then some ((a_1.length : Int), Value.nilIface, ⟨L_0.f_buf ++ a_1⟩) else none)
theorem strings_Builder_WriteString_ok {p_0 : Value} {L_0 : O_Bld} {a_1 : List UInt8} {r : Int × Value × O_Bld} (hF : strings_Builder_WriteString L_0 a_1 = some r) : CallOk Tryd.prog KG 94 [(eqVP p_0), (strVP a_1)] [(Bld_e p_0 (some L_0))] (fun _ => [Bld_e p_0 (some r.2.2)]) (tupVP [(intVP .i64 r.1), (eqVP r.2.1)]) := by
  refine CallOk.intro 19 Tryd.func94 rfl Tryd.ntmps94 (Nat.le_of_ble_eq_true rfl) ?_
  intro c a w hG hn h
  unfold strings_Builder_WriteString at hF
  change SatL c [.slot 0 (eqVP p_0), .slot 1 (strVP a_1), .res (Bld_e p_0 (some L_0))] a w at h
  obtain ⟨h_0_1, h⟩ := h.ex 2 rfl
  change SatL c [.slot 0 (eqVP p_0), .slot 1 (strVP a_1), .res (Bld_o p_0 h_0_1 (some L_0))] a w at h
  have hp := h.isp 2 rfl (fun Φ f w q => Bld_lp Φ f w q)
  replace h := h.slotc 0 rfl (V' := lpVP p_0 0) (fun _ _ h => eq_lp h hp)
  replace h := h.sep (R := lb p_0 143 [one (selfVP p_0), one (eqVP h_0_1)]) (S := (acc h_0_1 5 1 bC L_0.f_buf)) 2 rfl
  replace h := h.sub [0, 1, 2, 3] (by rfl)
  change SatL c [.slot 0 (lpVP p_0 0), .slot 1 (strVP a_1), .res (lb p_0 143 [one (selfVP p_0), one (eqVP h_0_1)]), .res (acc h_0_1 5 1 bC L_0.f_buf)] a w at h
  refine wp_seq ?_
  refine region_do (n := 19) [.slot 4 100000 100000 (fun _ _ => (intVP .i64 0)),
      .slot 5 100000 100000 (fun _ _ => (eqVP Value.nilIface))] [0, 1] [⟨[], [], [4], [], some 4⟩, ⟨[], [], [5], [0], some 5⟩] [0, 1, 2, 3] mixed hn hG h (by kernel_rfl) ?_ ?_
  · exact ⟨⟨rfl, fun β => (GOk.plain (op_assign (opc (ic (by decide)))) rfl)⟩, ⟨rfl, fun β => (GOk.plain (op_assign (opc (ec _))) rfl)⟩, trivial⟩
  clear h
  intro β a w h
  change SatL c [.slot 0 (lpVP p_0 0), .slot 1 (strVP a_1), .res (lb p_0 143 [one (selfVP p_0), one (eqVP h_0_1)]), .res (acc h_0_1 5 1 bC L_0.f_buf)] a w at h
  clear β
  show Code.wp Tryd.prog _ _ a w
  refine wp_seq ?_
  refine region_do (n := 19) [.slot 6 100000 100000 (fun _ _ => (lpVP p_0 0)),
      .slot 7 100000 100000 (fun _ _ => (tupVP [])),
      .res 100000 100000 (fun _ _ => (lb p_0 143 [one (selfVP p_0), one (eqVP h_0_1)]))] [0, 1, 1] [⟨[0], [], [4], [], some 6⟩, ⟨[4], [2], [5, 6], [0], some 7⟩] [0, 1, 3, 6] mixed hn hG h (by kernel_rfl) ?_ ?_
  · exact ⟨⟨rfl, fun β => (GOk.plain (op_move (opt 0 rfl)) rfl)⟩, ⟨rfl, fun β => (GOk.plain (op_call Tryd.call100 copyCheck_ok ⟨(lp_eqo 0 rfl), trivial⟩) rfl)⟩, trivial⟩
  clear h
  intro β a w h
  change SatL c [.slot 0 (lpVP p_0 0), .slot 1 (strVP a_1), .res (acc h_0_1 5 1 bC L_0.f_buf), .res (lb p_0 143 [one (selfVP p_0), one (eqVP h_0_1)])] a w at h
  clear β
  show Code.wp Tryd.prog _ _ a w
  refine wp_seq ?_
  obtain ⟨hv1, hF⟩ := ite_some hF
  refine region_do (n := 19) [.slot 8 100000 100000 (fun _ _ => (lpVP p_0 0)),
      .slot 9 100000 100000 (fun _ _ => (lpVP p_0 0)),
      .slot 10 100000 100000 (fun _ _ => (lpVP p_0 0)),
      .slot 11 100000 100000 (fun _ _ => (lpVP p_0 1)),
      .slot 12 100000 100000 (fun _ _ => (eqVP h_0_1)),
      .slot 13 100000 100000 (fun _ _ => (strVP a_1)),
      .slot 14 6 100000 (fun v1_ _ => (eqVP v1_)),
      .res 6 100000 (fun v1_ _ => (acc (v1_) 5 1 bC (L_0.f_buf ++ a_1))),
      .slot 15 100000 100000 (fun _ _ => (lpVP p_0 0)),
      .slot 16 100000 100000 (fun _ _ => (lpVP p_0 1)),
      .res 6 100000 (fun v1_ _ => (lb p_0 143 [one (selfVP p_0), one (eqVP (v1_))]))] [0, 1, 2, 3, 4, 5, 6, 6, 7, 8, 9] [⟨[0], [], [4], [], some 8⟩, ⟨[0], [], [5], [0], some 9⟩, ⟨[5], [], [6], [0, 1], some 10⟩, ⟨[6], [], [7], [0, 1, 2], some 11⟩, ⟨[7, 3], [], [8], [0, 1, 2, 3], some 12⟩, ⟨[1], [], [9], [0, 1, 2, 3, 4], some 13⟩, ⟨[8, 9], [2], [10, 11], [0, 1, 2, 3, 4, 5], some 14⟩, ⟨[4], [], [12], [0, 1, 2, 3, 4, 5, 6], some 15⟩, ⟨[12], [], [13], [0, 1, 2, 3, 4, 5, 6, 7], some 16⟩, ⟨[13, 10, 11], [3], [14], [0, 1, 2, 3, 4, 5, 6, 7, 8], none⟩] [1, 14, 11] mixed hn hG h (by kernel_rfl) ?_ ?_
  · exact ⟨⟨rfl, fun β => (GOk.plain (op_move (opt 0 rfl)) rfl)⟩, ⟨rfl, fun β => (GOk.plain (op_move (opt 0 rfl)) rfl)⟩, ⟨rfl, fun β => (GOk.plain (op_nilCheck (opt 0 rfl) (ptr_lp _ _)) rfl)⟩, ⟨rfl, fun β => (GOk.plain (op_fieldAddr_lbm (p := p_0) (n := 1) 0 1 Tryd.underlying143 rfl Tryd.sizeOf129 (by decide) (opt 0 rfl) rfl) rfl)⟩, ⟨rfl, fun β => (GOk.plain (op_load_lb1 [one (selfVP p_0)] [] 1 Tryd.isAgg129 (opt 0 rfl) rfl rfl) rfl)⟩, ⟨rfl, fun β => (GOk.plain (op_move (opt 0 rfl)) rfl)⟩, ⟨rfl, fun β => (GOk.plain (op_append_str Tryd.underlying129 Tryd.underlying9 Tryd.type5 rfl rfl rfl rfl (opt 0 rfl) (opt 1 rfl) hv1) rfl)⟩, ⟨rfl, fun β => (GOk.plain (op_nilCheck (opt 0 rfl) (ptr_lp _ _)) rfl)⟩, ⟨rfl, fun β => (GOk.plain (op_fieldAddr_lbm (p := p_0) (n := 1) 0 1 Tryd.underlying143 rfl Tryd.sizeOf129 (by decide) (opt 0 rfl) rfl) rfl)⟩, ⟨rfl, fun β => (GOk.plain (op_store_lb [one (selfVP p_0)] [one (eqVP h_0_1)] [] [one (eqVP ((β 6)))] Tryd.sizeOf129 (opt 0 rfl) (opone 1 2 rfl rfl acc_one) (cells_h _) rfl rfl rfl) rfl)⟩, trivial⟩
  clear h
  intro β a w h
  change SatL c [.slot 1 (strVP a_1), .res (lb p_0 143 [one (selfVP p_0), one (eqVP (β 6))]), .res (acc (β 6) 5 1 bC (L_0.f_buf ++ a_1))] a w at h
  generalize β 6 = p2 at h
  clear β
  show Code.wp Tryd.prog _ _ a w
  refine wp_seq ?_
  refine region_do (n := 19) [.slot 17 100000 100000 (fun _ _ => (strVP a_1)),
      .slot 18 100000 100000 (fun _ _ => (intVP .i64 (a_1.length : Int))),
      .slot 4 100000 100000 (fun _ _ => (intVP .i64 (a_1.length : Int))),
      .slot 5 100000 100000 (fun _ _ => (eqVP Value.nilIface))] [0, 1, 2, 3] [⟨[0], [], [3], [], some 17⟩, ⟨[3], [], [4], [0], some 18⟩, ⟨[4], [], [5], [0, 1], some 4⟩, ⟨[], [], [6], [0, 1, 2], some 5⟩] [5, 6, 1, 2] mixed hn hG h (by kernel_rfl) ?_ ?_
  · exact ⟨⟨rfl, fun β => (GOk.plain (op_move (opt 0 rfl)) rfl)⟩, ⟨rfl, fun β => (GOk.plain (op_len_str Tryd.underlying9 (opt 0 rfl)) rfl)⟩, ⟨rfl, fun β => (GOk.plain (op_assign (opt 0 rfl)) rfl)⟩, ⟨rfl, fun β => (GOk.plain (op_assign (opc (ec _))) rfl)⟩, trivial⟩
  clear h
  intro β a w h
  change SatL c [.slot 4 (intVP .i64 (a_1.length : Int)), .slot 5 (eqVP Value.nilIface), .res (lb p_0 143 [one (selfVP p_0), one (eqVP p2)]), .res (acc p2 5 1 bC (L_0.f_buf ++ a_1))] a w at h
  clear β
  show Code.wp Tryd.prog _ _ a w
  refine wp_ret ?_
  replace h := h.unsep 2 3 rfl rfl (by decide)
  replace h := h.conv 2 rfl (R' := Bld_e p_0 (some ⟨L_0.f_buf ++ a_1⟩)) (Bld_packo (v1 := p2) (o := (some ⟨L_0.f_buf ++ a_1⟩)))
  replace h := h.sub [0, 1, 2] (by rfl)
  change SatL c [.slot 4 (intVP .i64 (a_1.length : Int)), .slot 5 (eqVP Value.nilIface), .res (Bld_e p_0 (some ⟨L_0.f_buf ++ a_1⟩))] a w at h
  obtain rfl := Option.some.inj hF
  exact ⟨.inl rfl, retn h (rs := [.tmp 4, .tmp 5]) (Vs := [(intVP .i64 (a_1.length : Int)), (eqVP Value.nilIface)]) Tryd.results94 (by decide) ⟨(r_tmp 0 rfl), (r_tmp 1 rfl), trivial⟩ [2] [(Bld_e p_0 (some ⟨L_0.f_buf ++ a_1⟩))] rfl rfl rfl⟩

def wire_big.b1 (a_0 : Int) (a_1 : Int) (x4 : Int) (x5 : List UInt8) : Option (Flow (List UInt8) (Int × (List UInt8))) := (if (decide (x4 < a_1)) = true then (if (0 : Int) ≤ IntKind.wrap .i64 (8 * (IntKind.wrap .i64 ((IntKind.wrap .i64 (a_1 - 1)) - x4))) then (if (0 : Int) ≤ x4 ∧ x4 < 8 then some (.cont (IntKind.wrap .i64 (x4 + 1), x5.set x4.toNat (u8of (IntKind.wrap .u8 (shr .u64 a_0 (IntKind.wrap .i64 (8 * (IntKind.wrap .i64 ((IntKind.wrap .i64 (a_1 - 1)) - x4))))))))) else none) else none) else some (.brk (x4, x5)))
def wire_big (a_0 : Int) (a_1 : Int) : Option (List UInt8) := ((loopN (fun s : Int × (List UInt8) => wire_big.b1 a_0 a_1 s.1 s.2) ((a_1 - 0 : Int).toNat + 2) (0, (List.replicate 8 0))).bind fun cr => match cr with | .ret r => some r | .next (y18, y19) => (if (0 : Int) ≤ 0 ∧ (0 : Int) ≤ a_1 ∧ a_1 ≤ 8 ∧ (0 : Int) < 8 then (if (a_1 : Int).toNat - (0 : Int).toNat ≤ 8 then some (y19.take ((a_1 : Int).toNat - (0 : Int).toNat)) else none) else none))
theorem wire_big_ok {a_0 : Int} {a_1 : Int} {r : (List UInt8)} (hF : wire_big a_0 a_1 = some r) : CallOk Tryd.prog KG 83 [(intVP .u64 a_0), (intVP .i64 a_1)] [] (fun _ => []) (strVP r) := by
  refine CallOk.intro 25 Tryd.func83 rfl Tryd.ntmps83 (Nat.le_of_ble_eq_true rfl) ?_
  intro c a w hG hn h
  unfold wire_big at hF
  change SatL c [.slot 0 (intVP .u64 a_0), .slot 1 (intVP .i64 a_1)] a w at h
  refine wp_seq ?_
  refine region_do (n := 25) [.slot 4 100000 100000 (fun _ _ => (strVP []))] [0] [⟨[], [], [2], [], some 4⟩] [0, 1] mixed hn hG h (by kernel_rfl) ?_ ?_
  · exact ⟨⟨rfl, fun β => (GOk.plain (op_assign (opc (sc _ (by decide)))) rfl)⟩, trivial⟩
  clear h
  intro β a w h
  change SatL c [.slot 0 (intVP .u64 a_0), .slot 1 (intVP .i64 a_1)] a w at h
  clear β
  show Code.wp Tryd.prog _ _ a w
  refine wp_seq ?_
  refine region_do (n := 25) [.slot 5 0 100000 (fun v1_ _ => (lpVP v1_ 0)),
      .res 0 100000 (fun v1_ _ => (lb (v1_) 135 [bytesCk 8 (List.replicate 8 0)]))] [0, 0] [⟨[], [], [2, 3], [], some 5⟩] [0, 1, 2, 3] mixed hn hG h (by kernel_rfl) ?_ ?_
  · exact ⟨⟨rfl, fun β => (GOk.plain (op_alloc Tryd.zeroValue135 z135) rfl)⟩, trivial⟩
  clear h
  intro β a w h
  change SatL c [.slot 0 (intVP .u64 a_0), .slot 1 (intVP .i64 a_1), .slot 5 (lpVP (β 0) 0), .res (lb (β 0) 135 [bytesCk 8 (List.replicate 8 0)])] a w at h
  generalize β 0 = p1 at h
  clear β
  show Code.wp Tryd.prog _ _ a w
  refine wp_seq ?_
  refine wp_seq ?_
  refine region_do (n := 25) [.slot 7 100000 100000 (fun _ _ => (intVP .i64 a_1)),
      .slot 8 100000 100000 (fun _ _ => (intVP .i64 0))] [0, 1] [⟨[1], [], [4], [], some 7⟩, ⟨[], [], [5], [0], some 8⟩] [0, 1, 2, 4, 5, 3] mixed hn hG h (by kernel_rfl) ?_ ?_
  · exact ⟨⟨rfl, fun β => (GOk.plain (op_move (opt 0 rfl)) rfl)⟩, ⟨rfl, fun β => (GOk.plain (op_move (opc (ic (by decide)))) rfl)⟩, trivial⟩
  clear h
  intro β a w h
  change SatL c [.slot 0 (intVP .u64 a_0), .slot 1 (intVP .i64 a_1), .slot 5 (lpVP p1 0), .slot 7 (intVP .i64 a_1), .slot 8 (intVP .i64 0), .res (lb p1 135 [bytesCk 8 (List.replicate 8 0)])] a w at h
  clear β
  show Code.wp Tryd.prog _ _ a w
  refine wp_block ?_
  obtain ⟨cr14, hl15, hF⟩ := bind_some hF
  refine wp_mono (wp_loopN (R := (List UInt8)) (S := Int × (List UInt8)) (fun s a w => SatL c [.slot 0 (intVP .u64 a_0), .slot 1 (intVP .i64 a_1), .slot 5 (lpVP p1 0), .slot 7 (intVP .i64 a_1), .slot 8 (intVP .i64 s.1), .res (lb p1 135 [bytesCk 8 s.2])] a w) (fun res e a w => match res with | .next s => e = .exit 0 ∧ SatL c [.slot 1 (intVP .i64 a_1), .slot 5 (lpVP p1 0), .res (lb p1 135 [bytesCk 8 s.2])] a w | .ret r => e = .ret ∧ RetOk Tryd.prog Tryd.f83 c (strVP r) (fun _ => []) a w) ?_ _ (0, (List.replicate 8 0)) _ _ _ (h.sub [0, 1, 2, 3, 4, 5] (by rfl)) hl15) ?_
  · clear hl15 hF h
    intro s a w o h hF
    obtain ⟨x4, x5⟩ := s
    change wire_big.b1 a_0 a_1 x4 x5 = some o at hF
    unfold wire_big.b1 at hF
    change SatL c [.slot 0 (intVP .u64 a_0), .slot 1 (intVP .i64 a_1), .slot 5 (lpVP p1 0), .slot 7 (intVP .i64 a_1), .slot 8 (intVP .i64 x4), .res (lb p1 135 [bytesCk 8 x5])] a w at h
    refine wp_seq ?_
    refine region_do (n := 25) [.slot 9 100000 100000 (fun _ _ => (boolVP (decide (x4 < a_1))))] [0] [⟨[4, 3], [], [6], [], some 9⟩] [0, 1, 2, 3, 4, 6, 5] mixed hn hG h (by kernel_rfl) ?_ ?_
    · exact ⟨⟨rfl, fun β => (GOk.plain (op_bin bin_lss (opt 0 rfl) (opt 1 rfl)) rfl)⟩, trivial⟩
    clear h
    intro β a w h
    change SatL c [.slot 0 (intVP .u64 a_0), .slot 1 (intVP .i64 a_1), .slot 5 (lpVP p1 0), .slot 7 (intVP .i64 a_1), .slot 8 (intVP .i64 x4), .slot 9 (boolVP (decide (x4 < a_1))), .res (lb p1 135 [bytesCk 8 x5])] a w at h
    clear β
    show Code.wp Tryd.prog _ _ a w
    refine wp_seq ?_
    refine cond_L h 5 rfl (fun hb11 => ?_) (fun hb11 => ?_)
    · replace hF := tt_of hb11 hF
      replace h := h.sub [0, 1, 2, 3, 4, 6] (by rfl)
      change SatL c [.slot 0 (intVP .u64 a_0), .slot 1 (intVP .i64 a_1), .slot 5 (lpVP p1 0), .slot 7 (intVP .i64 a_1), .slot 8 (intVP .i64 x4), .res (lb p1 135 [bytesCk 8 x5])] a w at h
      refine wp_skip ?_
      show Code.wp Tryd.prog _ _ a w
      refine wp_seq ?_
      refine wp_block ?_
      refine wp_seq ?_
      refine region_do (n := 25) [.slot 10 100000 100000 (fun _ _ => (intVP .i64 x4)),
      .slot 6 100000 100000 (fun _ _ => (intVP .i64 x4))] [0, 1] [⟨[4], [], [6], [], some 10⟩, ⟨[6], [], [7], [0], some 6⟩] [0, 1, 2, 7, 3, 4, 5] mixed hn hG h (by kernel_rfl) ?_ ?_
      · exact ⟨⟨rfl, fun β => (GOk.plain (op_move (opt 0 rfl)) rfl)⟩, ⟨rfl, fun β => (GOk.plain (op_assign (opt 0 rfl)) rfl)⟩, trivial⟩
      clear h
      intro β a w h
      change SatL c [.slot 0 (intVP .u64 a_0), .slot 1 (intVP .i64 a_1), .slot 5 (lpVP p1 0), .slot 6 (intVP .i64 x4), .slot 7 (intVP .i64 a_1), .slot 8 (intVP .i64 x4), .res (lb p1 135 [bytesCk 8 x5])] a w at h
      clear β
      show Code.wp Tryd.prog _ _ a w
      obtain ⟨hv12, hF⟩ := ite_some hF
      obtain ⟨hv13, hF⟩ := ite_some hF
      refine region_do (n := 25) [.slot 11 100000 100000 (fun _ _ => (intVP .i64 x4)),
      .slot 12 100000 100000 (fun _ _ => (intVP .u64 a_0)),
      .slot 13 100000 100000 (fun _ _ => (intVP .i64 a_1)),
      .slot 14 100000 100000 (fun _ _ => (intVP .i64 (IntKind.wrap .i64 (a_1 - 1)))),
      .slot 15 100000 100000 (fun _ _ => (intVP .i64 x4)),
      .slot 16 100000 100000 (fun _ _ => (intVP .i64 (IntKind.wrap .i64 ((IntKind.wrap .i64 (a_1 - 1)) - x4)))),
      .slot 17 100000 100000 (fun _ _ => (intVP .i64 (IntKind.wrap .i64 (8 * (IntKind.wrap .i64 ((IntKind.wrap .i64 (a_1 - 1)) - x4)))))),
      .slot 18 100000 100000 (fun _ _ => (intVP .u64 (shr .u64 a_0 (IntKind.wrap .i64 (8 * (IntKind.wrap .i64 ((IntKind.wrap .i64 (a_1 - 1)) - x4))))))),
      .slot 19 100000 100000 (fun _ _ => (intVP .u8 (IntKind.wrap .u8 (shr .u64 a_0 (IntKind.wrap .i64 (8 * (IntKind.wrap .i64 ((IntKind.wrap .i64 (a_1 - 1)) - x4)))))))),
      .slot 20 100000 100000 (fun _ _ => (lpVP p1 (0 + x4.toNat * 1))),
      .res 100000 100000 (fun _ _ => (lb p1 135 [bytesCk 8 (x5.set x4.toNat (u8of (IntKind.wrap .u8 (shr .u64 a_0 (IntKind.wrap .i64 (8 * (IntKind.wrap .i64 ((IntKind.wrap .i64 (a_1 - 1)) - x4))))))))]))] [0, 1, 2, 3, 4, 5, 6, 7, 8, 9, 10] [⟨[3], [], [7], [], some 11⟩, ⟨[0], [], [8], [0], some 12⟩, ⟨[1], [], [9], [0, 1], some 13⟩, ⟨[9], [], [10], [0, 1, 2], some 14⟩, ⟨[3], [], [11], [0, 1, 2, 3], some 15⟩, ⟨[10, 11], [], [12], [0, 1, 2, 3, 4], some 16⟩, ⟨[12], [], [13], [0, 1, 2, 3, 4, 5], some 17⟩, ⟨[8, 13], [], [14], [0, 1, 2, 3, 4, 5, 6], some 18⟩, ⟨[14], [], [15], [0, 1, 2, 3, 4, 5, 6, 7], some 19⟩, ⟨[2, 7], [], [16], [0, 1, 2, 3, 4, 5, 6, 7, 8], some 20⟩, ⟨[16, 15], [6], [17], [0, 1, 2, 3, 4, 5, 6, 7, 8, 9], none⟩] [0, 1, 2, 4, 5, 17] mixed hn hG h (by kernel_rfl) ?_ ?_
      · exact ⟨⟨rfl, fun β => (GOk.plain (op_move (opt 0 rfl)) rfl)⟩, ⟨rfl, fun β => (GOk.plain (op_move (opt 0 rfl)) rfl)⟩, ⟨rfl, fun β => (GOk.plain (op_move (opt 0 rfl)) rfl)⟩, ⟨rfl, fun β => (GOk.plain (op_bin bin_sub (opt 0 rfl) (opc (ic (by decide)))) rfl)⟩, ⟨rfl, fun β => (GOk.plain (op_move (opt 0 rfl)) rfl)⟩, ⟨rfl, fun β => (GOk.plain (op_bin bin_sub (opt 0 rfl) (opt 1 rfl)) rfl)⟩, ⟨rfl, fun β => (GOk.plain (op_bin bin_mul (opc (ic (by decide))) (opt 0 rfl)) rfl)⟩, ⟨rfl, fun β => (GOk.plain (op_bin (bin_shr hv12) (opt 0 rfl) (opt 1 rfl)) rfl)⟩, ⟨rfl, fun β => (GOk.plain (op_convert_int Tryd.underlying114 Tryd.underlying5 (opt 0 rfl)) rfl)⟩, ⟨rfl, fun β => (GOk.plain (op_indexAddr_lb Tryd.underlying135 Tryd.sizeOf5 (opt 0 rfl) (opt 1 rfl) hv13) rfl)⟩, ⟨rfl, fun β => (GOk.plain (op_store_lbB (i := x4) [] [] Tryd.sizeOf5 (opt 0 rfl) (opt 1 rfl) rfl hv13) rfl)⟩, trivial⟩
      clear h
      intro β a w h
      change SatL c [.slot 0 (intVP .u64 a_0), .slot 1 (intVP .i64 a_1), .slot 5 (lpVP p1 0), .slot 7 (intVP .i64 a_1), .slot 8 (intVP .i64 x4), .res (lb p1 135 [bytesCk 8 (x5.set x4.toNat (u8of (IntKind.wrap .u8 (shr .u64 a_0 (IntKind.wrap .i64 (8 * (IntKind.wrap .i64 ((IntKind.wrap .i64 (a_1 - 1)) - x4))))))))])] a w at h
      clear β
      show Code.wp Tryd.prog _ _ a w
      refine region_do (n := 25) [.slot 21 100000 100000 (fun _ _ => (intVP .i64 (IntKind.wrap .i64 (x4 + 1)))),
      .slot 8 100000 100000 (fun _ _ => (intVP .i64 (IntKind.wrap .i64 (x4 + 1))))] [0, 1] [⟨[4], [], [6], [], some 21⟩, ⟨[6], [4], [7], [0], some 8⟩] [0, 1, 2, 3, 7, 5] mixed hn hG h (by kernel_rfl) ?_ ?_
      · exact ⟨⟨rfl, fun β => (GOk.plain (op_bin bin_add (opt 0 rfl) (opc (ic (by decide)))) rfl)⟩, ⟨rfl, fun β => (GOk.drop _ (GOk.plain (op_move (opt 0 rfl)) rfl))⟩, trivial⟩
      clear h
      intro β a w h
      change SatL c [.slot 0 (intVP .u64 a_0), .slot 1 (intVP .i64 a_1), .slot 5 (lpVP p1 0), .slot 7 (intVP .i64 a_1), .slot 8 (intVP .i64 (IntKind.wrap .i64 (x4 + 1))), .res (lb p1 135 [bytesCk 8 (x5.set x4.toNat (u8of (IntKind.wrap .u8 (shr .u64 a_0 (IntKind.wrap .i64 (8 * (IntKind.wrap .i64 ((IntKind.wrap .i64 (a_1 - 1)) - x4))))))))])] a w at h
      clear β
      obtain rfl := Option.some.inj hF
      exact ⟨rfl, h.sub [0, 1, 2, 3, 4, 5] (by rfl)⟩
    · replace hF := ff_of hb11 hF
      replace h := h.sub [0, 1, 2, 3, 4, 6] (by rfl)
      change SatL c [.slot 0 (intVP .u64 a_0), .slot 1 (intVP .i64 a_1), .slot 5 (lpVP p1 0), .slot 7 (intVP .i64 a_1), .slot 8 (intVP .i64 x4), .res (lb p1 135 [bytesCk 8 x5])] a w at h
      refine wp_exit ?_
      obtain rfl := Option.some.inj hF
      exact ⟨exit_ne _, rfl, h.sub [1, 2, 5] (by rfl)⟩
  · clear hl15
    intro e a w hq
    cases cr14 with
    | ret r16 =>
      obtain ⟨rfl, hq⟩ := hq
      obtain rfl := Option.some.inj hF
      exact ⟨.inl rfl, hq⟩
    | next s17 =>
      obtain ⟨y18, y19⟩ := s17
      obtain ⟨rfl, h⟩ := hq
      change SatL c [.slot 1 (intVP .i64 a_1), .slot 5 (lpVP p1 0), .res (lb p1 135 [bytesCk 8 y19])] a w at h
      refine inBlock_at ?_
      show Code.wp Tryd.prog _ _ a w
      refine wp_seq ?_
      obtain ⟨hv20, hF⟩ := ite_some hF
      obtain ⟨hv21, hF⟩ := ite_some hF
      refine region_do (n := 25) [.slot 22 100000 100000 (fun _ _ => (intVP .i64 a_1)),
      .slot 23 100000 100000 (fun _ _ => (lslVP p1 (0 + (0 : Int).toNat * 1) ((a_1 : Int).toNat - (0 : Int).toNat) (8 - (0 : Int).toNat))),
      .slot 24 100000 100000 (fun _ _ => (strVP (y19.take ((a_1 : Int).toNat - (0 : Int).toNat)))),
      .slot 4 100000 100000 (fun _ _ => (strVP (y19.take ((a_1 : Int).toNat - (0 : Int).toNat))))] [0, 1, 2, 3] [⟨[0], [], [3], [], some 22⟩, ⟨[1, 3], [], [4], [0], some 23⟩, ⟨[4, 2], [], [5], [0, 1], some 24⟩, ⟨[5], [], [6], [0, 1, 2], some 4⟩] [6] mixed hn hG h (by kernel_rfl) ?_ ?_
      · exact ⟨⟨rfl, fun β => (GOk.plain (op_move (opt 0 rfl)) rfl)⟩, ⟨rfl, fun β => (GOk.plain (op_slice_lb (a := 0) (b := a_1) Tryd.underlying135 Tryd.sizeOf5 (opt 0 rfl) rfl ⟨_, (opt 1 rfl)⟩ hv20) rfl)⟩, ⟨rfl, fun β => (GOk.plain (op_str_lsl [] [] 1 Tryd.underlying129 Tryd.underlying5 Tryd.underlying9 (opt 0 rfl) rfl rfl hv21 (by decide)) rfl)⟩, ⟨rfl, fun β => (GOk.plain (op_assign (opt 0 rfl)) rfl)⟩, trivial⟩
      clear h
      intro β a w h
      change SatL c [.slot 4 (strVP (y19.take ((a_1 : Int).toNat - (0 : Int).toNat)))] a w at h
      clear β
      show Code.wp Tryd.prog _ _ a w
      refine wp_ret ?_
      obtain rfl := Option.some.inj hF
      exact ⟨.inl rfl, ret1 h Tryd.results83 (r_tmp 0 rfl) [] [] rfl rfl rfl⟩

def wire_Word (a_0 : Int) : Option (List UInt8) := ((wire_big (IntKind.wrap .u64 a_0) 4).bind fun r1 => some r1)
theorem wire_Word_ok {a_0 : Int} {r : (List UInt8)} (hF : wire_Word a_0 = some r) : CallOk Tryd.prog KG 63 [(intVP .u32 a_0)] [] (fun _ => []) (strVP r) := by
  refine CallOk.intro 6 Tryd.func63 rfl Tryd.ntmps63 (Nat.le_of_ble_eq_true rfl) ?_
  intro c a w hG hn h
  unfold wire_Word at hF
  change SatL c [.slot 0 (intVP .u32 a_0)] a w at h
  refine wp_seq ?_
  refine region_do (n := 6) [.slot 2 100000 100000 (fun _ _ => (strVP []))] [0] [⟨[], [], [1], [], some 2⟩] [0] mixed hn hG h (by kernel_rfl) ?_ ?_
  · exact ⟨⟨rfl, fun β => (GOk.plain (op_assign (opc (sc _ (by decide)))) rfl)⟩, trivial⟩
  clear h
  intro β a w h
  change SatL c [.slot 0 (intVP .u32 a_0)] a w at h
  clear β
  show Code.wp Tryd.prog _ _ a w
  refine wp_seq ?_
  obtain ⟨r1, hr1, hF⟩ := bind_some hF
  refine region_do (n := 6) [.slot 3 100000 100000 (fun _ _ => (intVP .u32 a_0)),
      .slot 4 100000 100000 (fun _ _ => (intVP .u64 (IntKind.wrap .u64 a_0))),
      .slot 5 100000 100000 (fun _ _ => (strVP r1)),
      .slot 2 100000 100000 (fun _ _ => (strVP r1))] [0, 1, 2, 3] [⟨[0], [], [1], [], some 3⟩, ⟨[1], [], [2], [0], some 4⟩, ⟨[2], [], [3], [0, 1], some 5⟩, ⟨[3], [], [4], [0, 1, 2], some 2⟩] [4] mixed hn hG h (by kernel_rfl) ?_ ?_
  · exact ⟨⟨rfl, fun β => (GOk.plain (op_move (opt 0 rfl)) rfl)⟩, ⟨rfl, fun β => (GOk.plain (op_convert_int Tryd.underlying51 Tryd.underlying114 (opt 0 rfl)) rfl)⟩, ⟨rfl, fun β => (GOk.plain (op_call Tryd.call83 (wire_big_ok hr1) ⟨(opt 0 rfl), (opc (ic (by decide))), trivial⟩) rfl)⟩, ⟨rfl, fun β => (GOk.plain (op_assign (opt 0 rfl)) rfl)⟩, trivial⟩
  clear h
  intro β a w h
  change SatL c [.slot 2 (strVP r1)] a w at h
  clear β
  show Code.wp Tryd.prog _ _ a w
  refine wp_ret ?_
  obtain rfl := Option.some.inj hF
  exact ⟨.inl rfl, ret1 h Tryd.results63 (r_tmp 0 rfl) [] [] rfl rfl rfl⟩

def wire_Text (a_0 : List UInt8) : Option (List UInt8) := ((wire_Word (IntKind.wrap .u32 (a_0.length : Int))).bind fun r1 => (if r1.length + a_0.length ≤ mxl then some (r1 ++ a_0) else none))
theorem wire_Text_ok {a_0 : List UInt8} {r : (List UInt8)} (hF : wire_Text a_0 = some r) : CallOk Tryd.prog KG 95 [(strVP a_0)] [] (fun _ => []) (strVP r) := by
  refine CallOk.intro 9 Tryd.func95 rfl Tryd.ntmps95 (Nat.le_of_ble_eq_true rfl) ?_
  intro c a w hG hn h
  unfold wire_Text at hF
  change SatL c [.slot 0 (strVP a_0)] a w at h
  refine wp_seq ?_
  refine region_do (n := 9) [.slot 2 100000 100000 (fun _ _ => (strVP []))] [0] [⟨[], [], [1], [], some 2⟩] [0] mixed hn hG h (by kernel_rfl) ?_ ?_
  · exact ⟨⟨rfl, fun β => (GOk.plain (op_assign (opc (sc _ (by decide)))) rfl)⟩, trivial⟩
  clear h
  intro β a w h
  change SatL c [.slot 0 (strVP a_0)] a w at h
  clear β
  show Code.wp Tryd.prog _ _ a w
  refine wp_seq ?_
  obtain ⟨r1, hr1, hF⟩ := bind_some hF
  obtain ⟨hv2, hF⟩ := ite_some hF
  refine region_do (n := 9) [.slot 3 100000 100000 (fun _ _ => (strVP a_0)),
      .slot 4 100000 100000 (fun _ _ => (intVP .i64 (a_0.length : Int))),
      .slot 5 100000 100000 (fun _ _ => (intVP .u32 (IntKind.wrap .u32 (a_0.length : Int)))),
      .slot 6 100000 100000 (fun _ _ => (strVP r1)),
      .slot 7 100000 100000 (fun _ _ => (strVP a_0)),
      .slot 8 100000 100000 (fun _ _ => (strVP (r1 ++ a_0))),
      .slot 2 100000 100000 (fun _ _ => (strVP (r1 ++ a_0)))] [0, 1, 2, 3, 4, 5, 6] [⟨[0], [], [1], [], some 3⟩, ⟨[1], [], [2], [0], some 4⟩, ⟨[2], [], [3], [0, 1], some 5⟩, ⟨[3], [], [4], [0, 1, 2], some 6⟩, ⟨[0], [], [5], [0, 1, 2, 3], some 7⟩, ⟨[4, 5], [], [6], [0, 1, 2, 3, 4], some 8⟩, ⟨[6], [], [7], [0, 1, 2, 3, 4, 5], some 2⟩] [7] mixed hn hG h (by kernel_rfl) ?_ ?_
  · exact ⟨⟨rfl, fun β => (GOk.plain (op_move (opt 0 rfl)) rfl)⟩, ⟨rfl, fun β => (GOk.plain (op_len_str Tryd.underlying9 (opt 0 rfl)) rfl)⟩, ⟨rfl, fun β => (GOk.plain (op_convert_int Tryd.underlying3 Tryd.underlying51 (opt 0 rfl)) rfl)⟩, ⟨rfl, fun β => (GOk.plain (op_call Tryd.call63 (wire_Word_ok hr1) ⟨(opt 0 rfl), trivial⟩) rfl)⟩, ⟨rfl, fun β => (GOk.plain (op_move (opt 0 rfl)) rfl)⟩, ⟨rfl, fun β => (GOk.plain (op_bin (bin_sadd hv2) (opt 0 rfl) (opt 1 rfl)) rfl)⟩, ⟨rfl, fun β => (GOk.plain (op_assign (opt 0 rfl)) rfl)⟩, trivial⟩
  clear h
  intro β a w h
  change SatL c [.slot 2 (strVP (r1 ++ a_0))] a w at h
  clear β
  show Code.wp Tryd.prog _ _ a w
  refine wp_ret ?_
  obtain rfl := Option.some.inj hF
  exact ⟨.inl rfl, ret1 h Tryd.results95 (r_tmp 0 rfl) [] [] rfl rfl rfl⟩

def digest_input.b1 (a_1 : List (List UInt8)) (x7 : Int) (x8 : O_Bld) : Option (Flow (List UInt8) (Int × O_Bld)) := (if (decide (x7 < (a_1.length : Int))) = true then (if (0 : Int) ≤ x7 ∧ x7 < a_1.length then ((wire_Text (a_1.getD x7.toNat default)).bind fun r17 => ((strings_Builder_WriteString x8 r17).bind fun r18 => some (.cont (IntKind.wrap .i64 (x7 + 1), r18.2.2)))) else none) else some (.brk (x7, x8)))
def digest_input (a_0 : Int) (a_1 : List (List UInt8)) : Option (List UInt8) := ((strings_Builder_WriteByte ⟨[]⟩ a_0).bind fun r2 => ((loopN (fun s : Int × O_Bld => digest_input.b1 a_1 s.1 s.2) (((a_1.length : Int) - 0 : Int).toNat + 2) (0, r2.2)).bind fun cr => match cr with | .ret r => some r | .next (y23, y24) => ((strings_Builder_String y24).bind fun r25 => some r25)))
theorem digest_input_ok {a_0 : Int} {a_1 : List (List UInt8)} {r : (List UInt8)} (hF : digest_input a_0 a_1 = some r) : CallOk Tryd.prog KG 80 [(intVP .u8 a_0), (slVP strC a_1)] [] (fun _ => []) (strVP r) := by
  refine CallOk.intro 21 Tryd.func80 rfl Tryd.ntmps80 (Nat.le_of_ble_eq_true rfl) ?_
  intro c a w hG hn h
  unfold digest_input at hF
  change SatL c [.slot 0 (intVP .u8 a_0), .slot 1 (slVP strC a_1)] a w at h
  refine wp_seq ?_
  refine region_do (n := 21) [.slot 4 100000 100000 (fun _ _ => (strVP []))] [0] [⟨[], [], [2], [], some 4⟩] [0, 1] mixed hn hG h (by kernel_rfl) ?_ ?_
  · exact ⟨⟨rfl, fun β => (GOk.plain (op_assign (opc (sc _ (by decide)))) rfl)⟩, trivial⟩
  clear h
  intro β a w h
  change SatL c [.slot 0 (intVP .u8 a_0), .slot 1 (slVP strC a_1)] a w at h
  clear β
  show Code.wp Tryd.prog _ _ a w
  refine wp_seq ?_
  refine region_do (n := 21) [.slot 5 0 100000 (fun v1_ _ => (lpVP v1_ 0)),
      .res 0 100000 (fun v1_ _ => (lb (v1_) 143 [one (eqVP (.pointer none)), one (eqVP (.slice none 0 0))]))] [0, 0] [⟨[], [], [2, 3], [], some 5⟩] [0, 1, 2, 3] mixed hn hG h (by kernel_rfl) ?_ ?_
  · exact ⟨⟨rfl, fun β => (GOk.plain (op_alloc Tryd.zeroValue143 zo143) rfl)⟩, trivial⟩
  clear h
  intro β a w h
  change SatL c [.slot 0 (intVP .u8 a_0), .slot 1 (slVP strC a_1), .slot 5 (lpVP (β 0) 0), .res (lb (β 0) 143 [one (eqVP (.pointer none)), one (eqVP (.slice none 0 0))])] a w at h
  generalize β 0 = p1 at h
  clear β
  show Code.wp Tryd.prog _ _ a w
  refine wp_seq ?_
  replace h := h.conv 3 rfl Bld_new
  replace h := h.slotc 2 rfl (fun _ _ h => lp_eqv h)
  replace h := h.sub [0, 1, 2, 3] (by rfl)
  change SatL c [.slot 0 (intVP .u8 a_0), .slot 1 (slVP strC a_1), .slot 5 (eqVP p1), .res (Bld_e p1 (some ⟨[]⟩))] a w at h
  obtain ⟨r2, hr2, hF⟩ := bind_some hF
  refine region_do (n := 21) [.slot 8 100000 100000 (fun _ _ => (intVP .u8 a_0)),
      .slot 9 100000 100000 (fun _ _ => (eqVP r2.1)),
      .res 100000 100000 (fun _ _ => (Bld_e p1 (some r2.2)))] [0, 1, 1] [⟨[0], [], [4], [], some 8⟩, ⟨[2, 4], [3], [5, 6], [0], some 9⟩] [1, 2, 6] mixed hn hG h (by kernel_rfl) ?_ ?_
  · exact ⟨⟨rfl, fun β => (GOk.plain (op_move (opt 0 rfl)) rfl)⟩, ⟨rfl, fun β => (GOk.plain (op_call Tryd.call93 (strings_Builder_WriteByte_ok hr2) ⟨(opt 0 rfl), (opt 1 rfl), trivial⟩) rfl)⟩, trivial⟩
  clear h
  intro β a w h
  change SatL c [.slot 1 (slVP strC a_1), .slot 5 (eqVP p1), .res (Bld_e p1 (some r2.2))] a w at h
  clear β
  show Code.wp Tryd.prog _ _ a w
  refine wp_seq ?_
  refine wp_seq ?_
  refine region_do (n := 21) [.slot 10 100000 100000 (fun _ _ => (slVP strC a_1)),
      .slot 11 100000 100000 (fun _ _ => (intVP .i64 (a_1.length : Int))),
      .slot 12 100000 100000 (fun _ _ => (intVP .i64 0))] [0, 1, 2] [⟨[0], [], [3], [], some 10⟩, ⟨[3], [], [4], [0], some 11⟩, ⟨[], [], [5], [0, 1], some 12⟩] [1, 3, 4, 5, 2] mixed hn hG h (by kernel_rfl) ?_ ?_
  · exact ⟨⟨rfl, fun β => (GOk.plain (op_move (opt 0 rfl)) rfl)⟩, ⟨rfl, fun β => (GOk.plain (op_len_sl Tryd.underlying101 (opt 0 rfl)) rfl)⟩, ⟨rfl, fun β => (GOk.plain (op_move (opc (ic (by decide)))) rfl)⟩, trivial⟩
  clear h
  intro β a w h
  change SatL c [.slot 5 (eqVP p1), .slot 10 (slVP strC a_1), .slot 11 (intVP .i64 (a_1.length : Int)), .slot 12 (intVP .i64 0), .res (Bld_e p1 (some r2.2))] a w at h
  clear β
  show Code.wp Tryd.prog _ _ a w
  refine wp_block ?_
  obtain ⟨cr19, hl20, hF⟩ := bind_some hF
  refine wp_mono (wp_loopN (R := (List UInt8)) (S := Int × O_Bld) (fun s a w => SatL c [.slot 5 (eqVP p1), .slot 10 (slVP strC a_1), .slot 11 (intVP .i64 (a_1.length : Int)), .slot 12 (intVP .i64 s.1), .res (Bld_e p1 (some s.2))] a w) (fun res e a w => match res with | .next s => e = .exit 0 ∧ SatL c [.slot 5 (eqVP p1), .res (Bld_e p1 (some s.2))] a w | .ret r => e = .ret ∧ RetOk Tryd.prog Tryd.f80 c (strVP r) (fun _ => []) a w) ?_ _ (0, r2.2) _ _ _ (h.sub [0, 1, 2, 3, 4] (by rfl)) hl20) ?_
  · clear hl20 hF h
    intro s a w o h hF
    obtain ⟨x7, x8⟩ := s
    change digest_input.b1 a_1 x7 x8 = some o at hF
    unfold digest_input.b1 at hF
    change SatL c [.slot 5 (eqVP p1), .slot 10 (slVP strC a_1), .slot 11 (intVP .i64 (a_1.length : Int)), .slot 12 (intVP .i64 x7), .res (Bld_e p1 (some x8))] a w at h
    refine wp_seq ?_
    refine region_do (n := 21) [.slot 13 100000 100000 (fun _ _ => (boolVP (decide (x7 < (a_1.length : Int)))))] [0] [⟨[3, 2], [], [5], [], some 13⟩] [0, 1, 2, 3, 5, 4] mixed hn hG h (by kernel_rfl) ?_ ?_
    · exact ⟨⟨rfl, fun β => (GOk.plain (op_bin bin_lss (opt 0 rfl) (opt 1 rfl)) rfl)⟩, trivial⟩
    clear h
    intro β a w h
    change SatL c [.slot 5 (eqVP p1), .slot 10 (slVP strC a_1), .slot 11 (intVP .i64 (a_1.length : Int)), .slot 12 (intVP .i64 x7), .slot 13 (boolVP (decide (x7 < (a_1.length : Int)))), .res (Bld_e p1 (some x8))] a w at h
    clear β
    show Code.wp Tryd.prog _ _ a w
    refine wp_seq ?_
    refine cond_L h 4 rfl (fun hb15 => ?_) (fun hb15 => ?_)
    · replace hF := tt_of hb15 hF
      replace h := h.sub [0, 1, 2, 3, 5] (by rfl)
      change SatL c [.slot 5 (eqVP p1), .slot 10 (slVP strC a_1), .slot 11 (intVP .i64 (a_1.length : Int)), .slot 12 (intVP .i64 x7), .res (Bld_e p1 (some x8))] a w at h
      refine wp_skip ?_
      show Code.wp Tryd.prog _ _ a w
      refine wp_seq ?_
      refine wp_block ?_
      refine wp_seq ?_
      obtain ⟨hv16, hF⟩ := ite_some hF
      refine region_do (n := 21) [.slot 14 100000 100000 (fun _ _ => (ppVP [one (strVP (a_1.getD x7.toNat default))])),
      .slot 15 100000 100000 (fun _ _ => (strVP (a_1.getD x7.toNat default))),
      .slot 7 100000 100000 (fun _ _ => (strVP (a_1.getD x7.toNat default)))] [0, 1, 2] [⟨[1, 3], [], [5], [], some 14⟩, ⟨[5], [], [6], [0], some 15⟩, ⟨[6], [], [7], [0, 1], some 7⟩] [0, 7, 1, 2, 3, 4] mixed hn hG h (by kernel_rfl) ?_ ?_
      · exact ⟨⟨rfl, fun β => (GOk.plain (op_indexAddr_sl Tryd.underlying101 Tryd.sizeOf9 lens_strC (opt 0 rfl) (opt 1 rfl) hv16) rfl)⟩, ⟨rfl, fun β => (GOk.plain (op_load_pp1 [] Tryd.isAgg9 (opt 0 rfl)) rfl)⟩, ⟨rfl, fun β => (GOk.plain (op_assign (opt 0 rfl)) rfl)⟩, trivial⟩
      clear h
      intro β a w h
      change SatL c [.slot 5 (eqVP p1), .slot 7 (strVP (a_1.getD x7.toNat default)), .slot 10 (slVP strC a_1), .slot 11 (intVP .i64 (a_1.length : Int)), .slot 12 (intVP .i64 x7), .res (Bld_e p1 (some x8))] a w at h
      clear β
      show Code.wp Tryd.prog _ _ a w
      obtain ⟨r17, hr17, hF⟩ := bind_some hF
      obtain ⟨r18, hr18, hF⟩ := bind_some hF
      refine region_do (n := 21) [.slot 16 100000 100000 (fun _ _ => (strVP (a_1.getD x7.toNat default))),
      .slot 17 100000 100000 (fun _ _ => (strVP r17)),
      .slot 18 100000 100000 (fun _ _ => (tupVP [(intVP .i64 r18.1), (eqVP r18.2.1)])),
      .res 100000 100000 (fun _ _ => (Bld_e p1 (some r18.2.2)))] [0, 1, 2, 2] [⟨[1], [], [6], [], some 16⟩, ⟨[6], [], [7], [0], some 17⟩, ⟨[0, 7], [5], [8, 9], [0, 1], some 18⟩] [0, 2, 3, 4, 9] mixed hn hG h (by kernel_rfl) ?_ ?_
      · exact ⟨⟨rfl, fun β => (GOk.plain (op_move (opt 0 rfl)) rfl)⟩, ⟨rfl, fun β => (GOk.plain (op_call Tryd.call95 (wire_Text_ok hr17) ⟨(opt 0 rfl), trivial⟩) rfl)⟩, ⟨rfl, fun β => (GOk.plain (op_call Tryd.call94 (strings_Builder_WriteString_ok hr18) ⟨(opt 0 rfl), (opt 1 rfl), trivial⟩) rfl)⟩, trivial⟩
      clear h
      intro β a w h
      change SatL c [.slot 5 (eqVP p1), .slot 10 (slVP strC a_1), .slot 11 (intVP .i64 (a_1.length : Int)), .slot 12 (intVP .i64 x7), .res (Bld_e p1 (some r18.2.2))] a w at h
      clear β
      show Code.wp Tryd.prog _ _ a w
      refine region_do (n := 21) [.slot 19 100000 100000 (fun _ _ => (intVP .i64 (IntKind.wrap .i64 (x7 + 1)))),
      .slot 12 100000 100000 (fun _ _ => (intVP .i64 (IntKind.wrap .i64 (x7 + 1))))] [0, 1] [⟨[3], [], [5], [], some 19⟩, ⟨[5], [3], [6], [0], some 12⟩] [0, 1, 2, 6, 4] mixed hn hG h (by kernel_rfl) ?_ ?_
      · exact ⟨⟨rfl, fun β => (GOk.plain (op_bin bin_add (opt 0 rfl) (opc (ic (by decide)))) rfl)⟩, ⟨rfl, fun β => (GOk.drop _ (GOk.plain (op_move (opt 0 rfl)) rfl))⟩, trivial⟩
      clear h
      intro β a w h
      change SatL c [.slot 5 (eqVP p1), .slot 10 (slVP strC a_1), .slot 11 (intVP .i64 (a_1.length : Int)), .slot 12 (intVP .i64 (IntKind.wrap .i64 (x7 + 1))), .res (Bld_e p1 (some r18.2.2))] a w at h
      clear β
      obtain rfl := Option.some.inj hF
      exact ⟨rfl, h.sub [0, 1, 2, 3, 4] (by rfl)⟩
    · replace hF := ff_of hb15 hF
      replace h := h.sub [0, 1, 2, 3, 5] (by rfl)
      change SatL c [.slot 5 (eqVP p1), .slot 10 (slVP strC a_1), .slot 11 (intVP .i64 (a_1.length : Int)), .slot 12 (intVP .i64 x7), .res (Bld_e p1 (some x8))] a w at h
      refine wp_exit ?_
      obtain rfl := Option.some.inj hF
      exact ⟨exit_ne _, rfl, h.sub [0, 4] (by rfl)⟩
  · clear hl20
    intro e a w hq
    cases cr19 with
    | ret r21 =>
      obtain ⟨rfl, hq⟩ := hq
      obtain rfl := Option.some.inj hF
      exact ⟨.inl rfl, hq⟩
    | next s22 =>
      obtain ⟨y23, y24⟩ := s22
      obtain ⟨rfl, h⟩ := hq
      change SatL c [.slot 5 (eqVP p1), .res (Bld_e p1 (some y24))] a w at h
      refine inBlock_at ?_
      show Code.wp Tryd.prog _ _ a w
      refine wp_seq ?_
      obtain ⟨r25, hr25, hF⟩ := bind_some hF
      refine region_do (n := 21) [.slot 20 100000 100000 (fun _ _ => (strVP r25)),
      .slot 4 100000 100000 (fun _ _ => (strVP r25))] [0, 1] [⟨[0], [1], [2], [], some 20⟩, ⟨[2], [], [3], [0], some 4⟩] [3] mixed hn hG h (by kernel_rfl) ?_ ?_
      · exact ⟨⟨rfl, fun β => (GOk.plain (op_call Tryd.call88 (strings_Builder_String_ok hr25) ⟨(opt 0 rfl), trivial⟩) rfl)⟩, ⟨rfl, fun β => (GOk.plain (op_assign (opt 0 rfl)) rfl)⟩, trivial⟩
      clear h
      intro β a w h
      change SatL c [.slot 4 (strVP r25)] a w at h
      clear β
      show Code.wp Tryd.prog _ _ a w
      refine wp_ret ?_
      obtain rfl := Option.some.inj hF
      exact ⟨.inl rfl, ret1 h Tryd.results80 (r_tmp 0 rfl) [] [] rfl rfl rfl⟩

def sha_Begin : Option S_sha_State := some (S_sha_State.mk gFirst [] (0 : Int))
theorem sha_Begin_ok {r : S_sha_State} (hF : sha_Begin = some r) : CallOk Tryd.prog KG 96 [] [] (fun _ => []) (aggVP [intsCk .u32 8 r.f_Words, one (strVP r.f_Rest), one (intVP .u64 r.f_Count)]) := by
  refine CallOk.intro 3 Tryd.func96 rfl Tryd.ntmps96 (Nat.le_of_ble_eq_true rfl) ?_
  intro c a w hG hn h
  unfold sha_Begin at hF
  change SatL c [] a w at h
  refine wp_seq ?_
  refine region_do (n := 3) [.slot 0 0 100000 (fun v1_ _ => (lpVP v1_ 0)),
      .res 0 100000 (fun v1_ _ => (lb (v1_) 158 [intsCk .u32 8 ((S_sha_State.mk (List.replicate 8 0) [] (0 : Int)).f_Words), one (strVP ((S_sha_State.mk (List.replicate 8 0) [] (0 : Int)).f_Rest)), one (intVP .u64 ((S_sha_State.mk (List.replicate 8 0) [] (0 : Int)).f_Count))]))] [0, 0] [⟨[], [], [0, 1], [], some 0⟩] [0, 1] mixed hn hG h (by kernel_rfl) ?_ ?_
  · exact ⟨⟨rfl, fun β => (GOk.plain (op_alloc Tryd.zeroValue158 z158) rfl)⟩, trivial⟩
  clear h
  intro β a w h
  change SatL c [.slot 0 (lpVP (β 0) 0), .res (lb (β 0) 158 [intsCk .u32 8 ((S_sha_State.mk (List.replicate 8 0) [] (0 : Int)).f_Words), one (strVP ((S_sha_State.mk (List.replicate 8 0) [] (0 : Int)).f_Rest)), one (intVP .u64 ((S_sha_State.mk (List.replicate 8 0) [] (0 : Int)).f_Count))])] a w at h
  generalize β 0 = p1 at h
  clear β
  show Code.wp Tryd.prog _ _ a w
  refine wp_seq ?_
  refine region_do (n := 3) [.slot 1 100000 100000 (fun _ _ => (aggVP [intsCk .u32 8 gFirst])),
      .slot 2 100000 100000 (fun _ _ => (aggVP [intsCk .u32 8 gFirst, one (strVP []), one (intVP .u64 (0 : Int))])),
      .res 100000 100000 (fun _ _ => (lb p1 158 [intsCk .u32 8 gFirst, one (strVP []), one (intVP .u64 (0 : Int))]))] [0, 1, 2] [⟨[], [], [2], [], some 1⟩, ⟨[2], [], [3], [0], some 2⟩, ⟨[0, 3], [1], [4], [0, 1], none⟩] [0, 4] mixed hn hG h (by kernel_rfl) ?_ ?_
  · exact ⟨⟨rfl, fun β => (GOk.plain (op_load_pp [intsCk .u32 8 gFirst] [] Tryd.isAgg150 Tryd.sizeOf150 (opg (fun Φ h => h.1)) rfl) rfl)⟩, ⟨rfl, fun β => (GOk.plain (op_build [(0, .tmp 1)] rfl bu158 z158 ⟨[], [intsCk .u32 8 (List.replicate 8 0)], [one (strVP []), one (intVP .u64 (0 : Int))], [intsCk .u32 8 gFirst], _, rfl, rfl, rfl, (opt 0 rfl), (cells_agg _), rfl⟩) rfl)⟩, ⟨rfl, fun β => (GOk.plain (op_store_lb [] [intsCk .u32 8 ((S_sha_State.mk (List.replicate 8 0) [] (0 : Int)).f_Words), one (strVP ((S_sha_State.mk (List.replicate 8 0) [] (0 : Int)).f_Rest)), one (intVP .u64 ((S_sha_State.mk (List.replicate 8 0) [] (0 : Int)).f_Count))] [] [intsCk .u32 8 gFirst, one (strVP []), one (intVP .u64 (0 : Int))] Tryd.sizeOf158 (opt 0 rfl) (opt 1 rfl) (cells_agg _) rfl rfl rfl) rfl)⟩, trivial⟩
  clear h
  intro β a w h
  change SatL c [.slot 0 (lpVP p1 0), .res (lb p1 158 [intsCk .u32 8 gFirst, one (strVP []), one (intVP .u64 (0 : Int))])] a w at h
  clear β
  show Code.wp Tryd.prog _ _ a w
  refine wp_ret ?_
  obtain rfl := Option.some.inj hF
  exact ⟨.inl rfl, ret1 h Tryd.results96 (r_cell 0 1 rfl rfl Tryd.isAgg158 Tryd.sizeOf158 rfl) [] [] rfl rfl rfl⟩

def bits_RotateLeft32 (a_0 : Int) (a_1 : Int) : Option Int := some (bits .or .u32 (shl .u32 a_0 (bits .and .u64 (IntKind.wrap .u64 a_1) 31)) (shr .u32 a_0 (IntKind.wrap .u64 (32 - (bits .and .u64 (IntKind.wrap .u64 a_1) 31)))))
theorem bits_RotateLeft32_ok {a_0 : Int} {a_1 : Int} {r : Int} (hF : bits_RotateLeft32 a_0 a_1 = some r) : CallOk Tryd.prog KG 108 [(intVP .u32 a_0), (intVP .i64 a_1)] [] (fun _ => []) (intVP .u32 r) := by
  refine CallOk.intro 17 Tryd.func108 rfl Tryd.ntmps108 (Nat.le_of_ble_eq_true rfl) ?_
  intro c a w hG hn h
  unfold bits_RotateLeft32 at hF
  change SatL c [.slot 0 (intVP .u32 a_0), .slot 1 (intVP .i64 a_1)] a w at h
  refine wp_seq ?_
  refine region_do (n := 17) [.slot 4 100000 100000 (fun _ _ => (intVP .u32 0))] [0] [⟨[], [], [2], [], some 4⟩] [0, 1] mixed hn hG h (by kernel_rfl) ?_ ?_
  · exact ⟨⟨rfl, fun β => (GOk.plain (op_assign (opc (ic (by decide)))) rfl)⟩, trivial⟩
  clear h
  intro β a w h
  change SatL c [.slot 0 (intVP .u32 a_0), .slot 1 (intVP .i64 a_1)] a w at h
  clear β
  show Code.wp Tryd.prog _ _ a w
  refine wp_seq ?_
  refine region_do (n := 17) [.slot 6 100000 100000 (fun _ _ => (intVP .i64 a_1)),
      .slot 7 100000 100000 (fun _ _ => (intVP .u64 (IntKind.wrap .u64 a_1))),
      .slot 8 100000 100000 (fun _ _ => (intVP .u64 (bits .and .u64 (IntKind.wrap .u64 a_1) 31))),
      .slot 5 100000 100000 (fun _ _ => (intVP .u64 (bits .and .u64 (IntKind.wrap .u64 a_1) 31)))] [0, 1, 2, 3] [⟨[1], [], [2], [], some 6⟩, ⟨[2], [], [3], [0], some 7⟩, ⟨[3], [], [4], [0, 1], some 8⟩, ⟨[4], [], [5], [0, 1, 2], some 5⟩] [0, 5] mixed hn hG h (by kernel_rfl) ?_ ?_
  · exact ⟨⟨rfl, fun β => (GOk.plain (op_move (opt 0 rfl)) rfl)⟩, ⟨rfl, fun β => (GOk.plain (op_convert_int Tryd.underlying3 Tryd.underlying128 (opt 0 rfl)) rfl)⟩, ⟨rfl, fun β => (GOk.plain (op_bin bin_and (opt 0 rfl) (opc (ic (by decide)))) rfl)⟩, ⟨rfl, fun β => (GOk.plain (op_assign (opt 0 rfl)) rfl)⟩, trivial⟩
  clear h
  intro β a w h
  change SatL c [.slot 0 (intVP .u32 a_0), .slot 5 (intVP .u64 (bits .and .u64 (IntKind.wrap .u64 a_1) 31))] a w at h
  clear β
  show Code.wp Tryd.prog _ _ a w
  refine wp_seq ?_
  refine region_do (n := 17) [.slot 9 100000 100000 (fun _ _ => (intVP .u32 a_0)),
      .slot 10 100000 100000 (fun _ _ => (intVP .u64 (bits .and .u64 (IntKind.wrap .u64 a_1) 31))),
      .slot 11 100000 100000 (fun _ _ => (intVP .u32 (shl .u32 a_0 (bits .and .u64 (IntKind.wrap .u64 a_1) 31)))),
      .slot 12 100000 100000 (fun _ _ => (intVP .u32 a_0)),
      .slot 13 100000 100000 (fun _ _ => (intVP .u64 (bits .and .u64 (IntKind.wrap .u64 a_1) 31))),
      .slot 14 100000 100000 (fun _ _ => (intVP .u64 (IntKind.wrap .u64 (32 - (bits .and .u64 (IntKind.wrap .u64 a_1) 31))))),
      .slot 15 100000 100000 (fun _ _ => (intVP .u32 (shr .u32 a_0 (IntKind.wrap .u64 (32 - (bits .and .u64 (IntKind.wrap .u64 a_1) 31)))))),
      .slot 16 100000 100000 (fun _ _ => (intVP .u32 (bits .or .u32 (shl .u32 a_0 (bits .and .u64 (IntKind.wrap .u64 a_1) 31)) (shr .u32 a_0 (IntKind.wrap .u64 (32 - (bits .and .u64 (IntKind.wrap .u64 a_1) 31))))))),
      .slot 4 100000 100000 (fun _ _ => (intVP .u32 (bits .or .u32 (shl .u32 a_0 (bits .and .u64 (IntKind.wrap .u64 a_1) 31)) (shr .u32 a_0 (IntKind.wrap .u64 (32 - (bits .and .u64 (IntKind.wrap .u64 a_1) 31)))))))] [0, 1, 2, 3, 4, 5, 6, 7, 8] [⟨[0], [], [2], [], some 9⟩, ⟨[1], [], [3], [0], some 10⟩, ⟨[2, 3], [], [4], [0, 1], some 11⟩, ⟨[0], [], [5], [0, 1, 2], some 12⟩, ⟨[1], [], [6], [0, 1, 2, 3], some 13⟩, ⟨[6], [], [7], [0, 1, 2, 3, 4], some 14⟩, ⟨[5, 7], [], [8], [0, 1, 2, 3, 4, 5], some 15⟩, ⟨[4, 8], [], [9], [0, 1, 2, 3, 4, 5, 6], some 16⟩, ⟨[9], [], [10], [0, 1, 2, 3, 4, 5, 6, 7], some 4⟩] [10] mixed hn hG h (by kernel_rfl) ?_ ?_
  · exact ⟨⟨rfl, fun β => (GOk.plain (op_move (opt 0 rfl)) rfl)⟩, ⟨rfl, fun β => (GOk.plain (op_move (opt 0 rfl)) rfl)⟩, ⟨rfl, fun β => (GOk.plain (op_bin (bin_shlu rfl) (opt 0 rfl) (opt 1 rfl)) rfl)⟩, ⟨rfl, fun β => (GOk.plain (op_move (opt 0 rfl)) rfl)⟩, ⟨rfl, fun β => (GOk.plain (op_move (opt 0 rfl)) rfl)⟩, ⟨rfl, fun β => (GOk.plain (op_bin bin_sub (opc (ic (by decide))) (opt 0 rfl)) rfl)⟩, ⟨rfl, fun β => (GOk.plain (op_bin (bin_shru rfl) (opt 0 rfl) (opt 1 rfl)) rfl)⟩, ⟨rfl, fun β => (GOk.plain (op_bin bin_or (opt 0 rfl) (opt 1 rfl)) rfl)⟩, ⟨rfl, fun β => (GOk.plain (op_assign (opt 0 rfl)) rfl)⟩, trivial⟩
  clear h
  intro β a w h
  change SatL c [.slot 4 (intVP .u32 (bits .or .u32 (shl .u32 a_0 (bits .and .u64 (IntKind.wrap .u64 a_1) 31)) (shr .u32 a_0 (IntKind.wrap .u64 (32 - (bits .and .u64 (IntKind.wrap .u64 a_1) 31))))))] a w at h
  clear β
  show Code.wp Tryd.prog _ _ a w
  refine wp_ret ?_
  obtain rfl := Option.some.inj hF
  exact ⟨.inl rfl, ret1 h Tryd.results108 (r_tmp 0 rfl) [] [] rfl rfl rfl⟩

def sha_schedule.b1 (a_0 : List UInt8) (x18 : Int) (x19 : List Int) : Option (Flow (List Int) (Int × (List Int))) := (if (decide (x18 < (64 : Int))) = true then (if (decide (x18 < (16 : Int))) = true then (if (0 : Int) ≤ IntKind.wrap .i64 (4 * x18) ∧ IntKind.wrap .i64 (4 * x18) ≤ IntKind.wrap .i64 ((IntKind.wrap .i64 (4 * x18)) + 4) ∧ IntKind.wrap .i64 ((IntKind.wrap .i64 (4 * x18)) + 4) ≤ a_0.length then (if (0 : Int) ≤ 0 ∧ (0 : Int) < ((a_0.take (IntKind.wrap .i64 ((IntKind.wrap .i64 (4 * x18)) + 4)).toNat).drop (IntKind.wrap .i64 (4 * x18)).toNat).length then (if (0 : Int) ≤ 1 ∧ (1 : Int) < ((a_0.take (IntKind.wrap .i64 ((IntKind.wrap .i64 (4 * x18)) + 4)).toNat).drop (IntKind.wrap .i64 (4 * x18)).toNat).length then (if (0 : Int) ≤ 2 ∧ (2 : Int) < ((a_0.take (IntKind.wrap .i64 ((IntKind.wrap .i64 (4 * x18)) + 4)).toNat).drop (IntKind.wrap .i64 (4 * x18)).toNat).length then (if (0 : Int) ≤ 3 ∧ (3 : Int) < ((a_0.take (IntKind.wrap .i64 ((IntKind.wrap .i64 (4 * x18)) + 4)).toNat).drop (IntKind.wrap .i64 (4 * x18)).toNat).length then (if (0 : Int) ≤ x18 ∧ x18 < 64 then some (.cont (IntKind.wrap .i64 (x18 + 1), x19.set x18.toNat (bits .or .u32 (bits .or .u32 (bits .or .u32 (shl .u32 (IntKind.wrap .u32 ((((a_0.take (IntKind.wrap .i64 ((IntKind.wrap .i64 (4 * x18)) + 4)).toNat).drop (IntKind.wrap .i64 (4 * x18)).toNat).getD (0 : Int).toNat 0).toNat)) 24) (shl .u32 (IntKind.wrap .u32 ((((a_0.take (IntKind.wrap .i64 ((IntKind.wrap .i64 (4 * x18)) + 4)).toNat).drop (IntKind.wrap .i64 (4 * x18)).toNat).getD (1 : Int).toNat 0).toNat)) 16)) (shl .u32 (IntKind.wrap .u32 ((((a_0.take (IntKind.wrap .i64 ((IntKind.wrap .i64 (4 * x18)) + 4)).toNat).drop (IntKind.wrap .i64 (4 * x18)).toNat).getD (2 : Int).toNat 0).toNat)) 8)) (IntKind.wrap .u32 ((((a_0.take (IntKind.wrap .i64 ((IntKind.wrap .i64 (4 * x18)) + 4)).toNat).drop (IntKind.wrap .i64 (4 * x18)).toNat).getD (3 : Int).toNat 0).toNat))))) else none) else none) else none) else none) else none) else none) else (if (0 : Int) ≤ IntKind.wrap .i64 (x18 - 15) ∧ IntKind.wrap .i64 (x18 - 15) < 64 then (if (0 : Int) ≤ IntKind.wrap .i64 (x18 - 2) ∧ IntKind.wrap .i64 (x18 - 2) < 64 then ((bits_RotateLeft32 (x19.getD (IntKind.wrap .i64 (x18 - 15)).toNat 0) (-7 : Int)).bind fun r49 => ((bits_RotateLeft32 (x19.getD (IntKind.wrap .i64 (x18 - 15)).toNat 0) (-18 : Int)).bind fun r50 => ((bits_RotateLeft32 (x19.getD (IntKind.wrap .i64 (x18 - 2)).toNat 0) (-17 : Int)).bind fun r51 => ((bits_RotateLeft32 (x19.getD (IntKind.wrap .i64 (x18 - 2)).toNat 0) (-19 : Int)).bind fun r52 => (if (0 : Int) ≤ IntKind.wrap .i64 (x18 - 16) ∧ IntKind.wrap .i64 (x18 - 16) < 64 then (if (0 : Int) ≤ IntKind.wrap .i64 (x18 - 7) ∧ IntKind.wrap .i64 (x18 - 7) < 64 then (if (0 : Int) ≤ x18 ∧ x18 < 64 then some (.cont (IntKind.wrap .i64 (x18 + 1), x19.set x18.toNat (IntKind.wrap .u32 ((IntKind.wrap .u32 ((IntKind.wrap .u32 ((x19.getD (IntKind.wrap .i64 (x18 - 16)).toNat 0) + (bits .xor .u32 (bits .xor .u32 r49 r50) (shr .u32 (x19.getD (IntKind.wrap .i64 (x18 - 15)).toNat 0) 3)))) + (x19.getD (IntKind.wrap .i64 (x18 - 7)).toNat 0))) + (bits .xor .u32 (bits .xor .u32 r51 r52) (shr .u32 (x19.getD (IntKind.wrap .i64 (x18 - 2)).toNat 0) 10)))))) else none) else none) else none))))) else none) else none)) else some (.brk (x18, x19)))
def sha_schedule (a_0 : List UInt8) : Option (List Int) := ((loopN (fun s : Int × (List Int) => sha_schedule.b1 a_0 s.1 s.2) ((64 - 0 : Int).toNat + 2) (0, (List.replicate 64 0))).bind fun cr => match cr with | .ret r => some r | .next (y60, y61) => some y61)
set_option maxHeartbeats 4000000 in
theorem sha_schedule_ok {a_0 : List UInt8} {r : (List Int)} (hF : sha_schedule a_0 = some r) : CallOk Tryd.prog KG 107 [(strVP a_0)] [] (fun _ => []) (aggVP [intsCk .u32 64 r]) := by
  refine CallOk.intro 83 Tryd.func107 rfl Tryd.ntmps107 (Nat.le_of_ble_eq_true rfl) ?_
  intro c a w hG hn h
  unfold sha_schedule at hF
  change SatL c [.slot 0 (strVP a_0)] a w at h
  refine wp_seq ?_
  refine region_do (n := 83) [.slot 2 0 100000 (fun v1_ _ => (lpVP v1_ 0)),
      .res 0 100000 (fun v1_ _ => (lb (v1_) 170 [intsCk .u32 64 (List.replicate 64 0)]))] [0, 0] [⟨[], [], [1, 2], [], some 2⟩] [0, 1, 2] mixed hn hG h (by kernel_rfl) ?_ ?_
  · exact ⟨⟨rfl, fun β => (GOk.plain (op_alloc Tryd.zeroValue170 z170) rfl)⟩, trivial⟩
  clear h
  intro β a w h
  change SatL c [.slot 0 (strVP a_0), .slot 2 (lpVP (β 0) 0), .res (lb (β 0) 170 [intsCk .u32 64 (List.replicate 64 0)])] a w at h
  generalize β 0 = p1 at h
  clear β
  show Code.wp Tryd.prog _ _ a w
  refine wp_seq ?_
  refine region_do (n := 83) [.slot 3 0 100000 (fun v1_ _ => (lpVP v1_ 0)),
      .res 0 100000 (fun v1_ _ => (lb (v1_) 170 [intsCk .u32 64 (List.replicate 64 0)]))] [0, 0] [⟨[], [], [3, 4], [], some 3⟩] [0, 1, 3, 2, 4] mixed hn hG h (by kernel_rfl) ?_ ?_
  · exact ⟨⟨rfl, fun β => (GOk.plain (op_alloc Tryd.zeroValue170 z170) rfl)⟩, trivial⟩
  clear h
  intro β a w h
  change SatL c [.slot 0 (strVP a_0), .slot 2 (lpVP p1 0), .slot 3 (lpVP (β 0) 0), .res (lb p1 170 [intsCk .u32 64 (List.replicate 64 0)]), .res (lb (β 0) 170 [intsCk .u32 64 (List.replicate 64 0)])] a w at h
  generalize β 0 = p2 at h
  clear β
  show Code.wp Tryd.prog _ _ a w
  refine wp_seq ?_
  refine wp_seq ?_
  refine region_do (n := 83) [.slot 10 100000 100000 (fun _ _ => (intVP .i64 0))] [0] [⟨[], [], [5], [], some 10⟩] [0, 1, 2, 5, 3, 4] mixed hn hG h (by kernel_rfl) ?_ ?_
  · exact ⟨⟨rfl, fun β => (GOk.plain (op_move (opc (ic (by decide)))) rfl)⟩, trivial⟩
  clear h
  intro β a w h
  change SatL c [.slot 0 (strVP a_0), .slot 2 (lpVP p1 0), .slot 3 (lpVP p2 0), .slot 10 (intVP .i64 0), .res (lb p1 170 [intsCk .u32 64 (List.replicate 64 0)]), .res (lb p2 170 [intsCk .u32 64 (List.replicate 64 0)])] a w at h
  clear β
  show Code.wp Tryd.prog _ _ a w
  refine wp_block ?_
  obtain ⟨cr56, hl57, hF⟩ := bind_some hF
  refine wp_mono (wp_loopN (R := (List Int)) (S := Int × (List Int)) (fun s a w => SatL c [.slot 0 (strVP a_0), .slot 2 (lpVP p1 0), .slot 3 (lpVP p2 0), .slot 10 (intVP .i64 s.1), .res (lb p1 170 [intsCk .u32 64 (List.replicate 64 0)]), .res (lb p2 170 [intsCk .u32 64 s.2])] a w) (fun res e a w => match res with | .next s => e = .exit 0 ∧ SatL c [.slot 2 (lpVP p1 0), .slot 3 (lpVP p2 0), .res (lb p1 170 [intsCk .u32 64 (List.replicate 64 0)]), .res (lb p2 170 [intsCk .u32 64 s.2])] a w | .ret r => e = .ret ∧ RetOk Tryd.prog Tryd.f107 c (aggVP [intsCk .u32 64 r]) (fun _ => []) a w) ?_ _ (0, (List.replicate 64 0)) _ _ _ (h.sub [0, 1, 2, 3, 4, 5] (by rfl)) hl57) ?_
  · clear hl57 hF h
    intro s a w o h hF
    obtain ⟨x18, x19⟩ := s
    change sha_schedule.b1 a_0 x18 x19 = some o at hF
    unfold sha_schedule.b1 at hF
    change SatL c [.slot 0 (strVP a_0), .slot 2 (lpVP p1 0), .slot 3 (lpVP p2 0), .slot 10 (intVP .i64 x18), .res (lb p1 170 [intsCk .u32 64 (List.replicate 64 0)]), .res (lb p2 170 [intsCk .u32 64 x19])] a w at h
    refine wp_seq ?_
    refine region_do (n := 83) [.slot 11 100000 100000 (fun _ _ => (boolVP (decide (x18 < (64 : Int)))))] [0] [⟨[3], [], [6], [], some 11⟩] [0, 1, 2, 3, 6, 4, 5] mixed hn hG h (by kernel_rfl) ?_ ?_
    · exact ⟨⟨rfl, fun β => (GOk.plain (op_bin bin_lss (opt 0 rfl) (opc (ic (by decide)))) rfl)⟩, trivial⟩
    clear h
    intro β a w h
    change SatL c [.slot 0 (strVP a_0), .slot 2 (lpVP p1 0), .slot 3 (lpVP p2 0), .slot 10 (intVP .i64 x18), .slot 11 (boolVP (decide (x18 < (64 : Int)))), .res (lb p1 170 [intsCk .u32 64 (List.replicate 64 0)]), .res (lb p2 170 [intsCk .u32 64 x19])] a w at h
    clear β
    show Code.wp Tryd.prog _ _ a w
    refine wp_seq ?_
    refine cond_L h 4 rfl (fun hb39 => ?_) (fun hb39 => ?_)
    · replace hF := tt_of hb39 hF
      replace h := h.sub [0, 1, 2, 3, 5, 6] (by rfl)
      change SatL c [.slot 0 (strVP a_0), .slot 2 (lpVP p1 0), .slot 3 (lpVP p2 0), .slot 10 (intVP .i64 x18), .res (lb p1 170 [intsCk .u32 64 (List.replicate 64 0)]), .res (lb p2 170 [intsCk .u32 64 x19])] a w at h
      refine wp_skip ?_
      show Code.wp Tryd.prog _ _ a w
      refine wp_seq ?_
      refine wp_block ?_
      refine wp_seq ?_
      refine region_do (n := 83) [.slot 12 100000 100000 (fun _ _ => (intVP .i64 x18)),
      .slot 4 100000 100000 (fun _ _ => (intVP .i64 x18))] [0, 1] [⟨[3], [], [6], [], some 12⟩, ⟨[6], [], [7], [0], some 4⟩] [0, 1, 2, 7, 3, 4, 5] mixed hn hG h (by kernel_rfl) ?_ ?_
      · exact ⟨⟨rfl, fun β => (GOk.plain (op_move (opt 0 rfl)) rfl)⟩, ⟨rfl, fun β => (GOk.plain (op_assign (opt 0 rfl)) rfl)⟩, trivial⟩
      clear h
      intro β a w h
      change SatL c [.slot 0 (strVP a_0), .slot 2 (lpVP p1 0), .slot 3 (lpVP p2 0), .slot 4 (intVP .i64 x18), .slot 10 (intVP .i64 x18), .res (lb p1 170 [intsCk .u32 64 (List.replicate 64 0)]), .res (lb p2 170 [intsCk .u32 64 x19])] a w at h
      clear β
      show Code.wp Tryd.prog _ _ a w
      refine wp_seq ?_
      refine wp_seq ?_
      refine region_do (n := 83) [.slot 13 100000 100000 (fun _ _ => (intVP .i64 x18)),
      .slot 14 100000 100000 (fun _ _ => (boolVP (decide (x18 < (16 : Int)))))] [0, 1] [⟨[3], [], [7], [], some 13⟩, ⟨[7], [], [8], [0], some 14⟩] [0, 1, 2, 3, 4, 8, 5, 6] mixed hn hG h (by kernel_rfl) ?_ ?_
      · exact ⟨⟨rfl, fun β => (GOk.plain (op_move (opt 0 rfl)) rfl)⟩, ⟨rfl, fun β => (GOk.plain (op_bin bin_lss (opt 0 rfl) (opc (ic (by decide)))) rfl)⟩, trivial⟩
      clear h
      intro β a w h
      change SatL c [.slot 0 (strVP a_0), .slot 2 (lpVP p1 0), .slot 3 (lpVP p2 0), .slot 4 (intVP .i64 x18), .slot 10 (intVP .i64 x18), .slot 14 (boolVP (decide (x18 < (16 : Int)))), .res (lb p1 170 [intsCk .u32 64 (List.replicate 64 0)]), .res (lb p2 170 [intsCk .u32 64 x19])] a w at h
      clear β
      show Code.wp Tryd.prog _ _ a w
      refine cond_L h 5 rfl (fun hb40 => ?_) (fun hb40 => ?_)
      · replace hF := tt_of hb40 hF
        replace h := h.sub [0, 1, 2, 3, 4, 6, 7] (by rfl)
        change SatL c [.slot 0 (strVP a_0), .slot 2 (lpVP p1 0), .slot 3 (lpVP p2 0), .slot 4 (intVP .i64 x18), .slot 10 (intVP .i64 x18), .res (lb p1 170 [intsCk .u32 64 (List.replicate 64 0)]), .res (lb p2 170 [intsCk .u32 64 x19])] a w at h
        refine wp_seq ?_
        obtain ⟨hv41, hF⟩ := ite_some hF
        refine region_do (n := 83) [.slot 15 100000 100000 (fun _ _ => (strVP a_0)),
      .slot 16 100000 100000 (fun _ _ => (intVP .i64 x18)),
      .slot 17 100000 100000 (fun _ _ => (intVP .i64 (IntKind.wrap .i64 (4 * x18)))),
      .slot 18 100000 100000 (fun _ _ => (intVP .i64 x18)),
      .slot 19 100000 100000 (fun _ _ => (intVP .i64 (IntKind.wrap .i64 (4 * x18)))),
      .slot 20 100000 100000 (fun _ _ => (intVP .i64 (IntKind.wrap .i64 ((IntKind.wrap .i64 (4 * x18)) + 4)))),
      .slot 21 100000 100000 (fun _ _ => (strVP ((a_0.take (IntKind.wrap .i64 ((IntKind.wrap .i64 (4 * x18)) + 4)).toNat).drop (IntKind.wrap .i64 (4 * x18)).toNat))),
      .slot 5 100000 100000 (fun _ _ => (strVP ((a_0.take (IntKind.wrap .i64 ((IntKind.wrap .i64 (4 * x18)) + 4)).toNat).drop (IntKind.wrap .i64 (4 * x18)).toNat)))] [0, 1, 2, 3, 4, 5, 6, 7] [⟨[0], [], [7], [], some 15⟩, ⟨[3], [], [8], [0], some 16⟩, ⟨[8], [], [9], [0, 1], some 17⟩, ⟨[3], [], [10], [0, 1, 2], some 18⟩, ⟨[10], [], [11], [0, 1, 2, 3], some 19⟩, ⟨[11], [], [12], [0, 1, 2, 3, 4], some 20⟩, ⟨[7, 9, 12], [], [13], [0, 1, 2, 3, 4, 5], some 21⟩, ⟨[13], [], [14], [0, 1, 2, 3, 4, 5, 6], some 5⟩] [0, 1, 2, 3, 14, 4, 5, 6] mixed hn hG h (by kernel_rfl) ?_ ?_
        · exact ⟨⟨rfl, fun β => (GOk.plain (op_move (opt 0 rfl)) rfl)⟩, ⟨rfl, fun β => (GOk.plain (op_move (opt 0 rfl)) rfl)⟩, ⟨rfl, fun β => (GOk.plain (op_bin bin_mul (opc (ic (by decide))) (opt 0 rfl)) rfl)⟩, ⟨rfl, fun β => (GOk.plain (op_move (opt 0 rfl)) rfl)⟩, ⟨rfl, fun β => (GOk.plain (op_bin bin_mul (opc (ic (by decide))) (opt 0 rfl)) rfl)⟩, ⟨rfl, fun β => (GOk.plain (op_bin bin_add (opt 0 rfl) (opc (ic (by decide)))) rfl)⟩, ⟨rfl, fun β => (GOk.plain (op_slice_str (a := IntKind.wrap .i64 (4 * x18)) (b := IntKind.wrap .i64 ((IntKind.wrap .i64 (4 * x18)) + 4)) Tryd.underlying9 (opt 0 rfl) ⟨_, (opt 1 rfl)⟩ ⟨_, (opt 2 rfl)⟩ hv41) rfl)⟩, ⟨rfl, fun β => (GOk.plain (op_assign (opt 0 rfl)) rfl)⟩, trivial⟩
        clear h
        intro β a w h
        change SatL c [.slot 0 (strVP a_0), .slot 2 (lpVP p1 0), .slot 3 (lpVP p2 0), .slot 4 (intVP .i64 x18), .slot 5 (strVP ((a_0.take (IntKind.wrap .i64 ((IntKind.wrap .i64 (4 * x18)) + 4)).toNat).drop (IntKind.wrap .i64 (4 * x18)).toNat)), .slot 10 (intVP .i64 x18), .res (lb p1 170 [intsCk .u32 64 (List.replicate 64 0)]), .res (lb p2 170 [intsCk .u32 64 x19])] a w at h
        clear β
        show Code.wp Tryd.prog _ _ a w
        refine wp_seq ?_
        obtain ⟨hv42, hF⟩ := ite_some hF
        obtain ⟨hv43, hF⟩ := ite_some hF
        obtain ⟨hv44, hF⟩ := ite_some hF
        obtain ⟨hv45, hF⟩ := ite_some hF
        obtain ⟨hv46, hF⟩ := ite_some hF
        refine region_do (n := 83) [.slot 22 100000 100000 (fun _ _ => (intVP .i64 x18)),
      .slot 23 100000 100000 (fun _ _ => (strVP ((a_0.take (IntKind.wrap .i64 ((IntKind.wrap .i64 (4 * x18)) + 4)).toNat).drop (IntKind.wrap .i64 (4 * x18)).toNat))),
      .slot 24 100000 100000 (fun _ _ => (intVP .u8 ((((a_0.take (IntKind.wrap .i64 ((IntKind.wrap .i64 (4 * x18)) + 4)).toNat).drop (IntKind.wrap .i64 (4 * x18)).toNat).getD (0 : Int).toNat 0).toNat))),
      .slot 25 100000 100000 (fun _ _ => (intVP .u32 (IntKind.wrap .u32 ((((a_0.take (IntKind.wrap .i64 ((IntKind.wrap .i64 (4 * x18)) + 4)).toNat).drop (IntKind.wrap .i64 (4 * x18)).toNat).getD (0 : Int).toNat 0).toNat)))),
      .slot 26 100000 100000 (fun _ _ => (intVP .u32 (shl .u32 (IntKind.wrap .u32 ((((a_0.take (IntKind.wrap .i64 ((IntKind.wrap .i64 (4 * x18)) + 4)).toNat).drop (IntKind.wrap .i64 (4 * x18)).toNat).getD (0 : Int).toNat 0).toNat)) 24))),
      .slot 27 100000 100000 (fun _ _ => (strVP ((a_0.take (IntKind.wrap .i64 ((IntKind.wrap .i64 (4 * x18)) + 4)).toNat).drop (IntKind.wrap .i64 (4 * x18)).toNat))),
      .slot 28 100000 100000 (fun _ _ => (intVP .u8 ((((a_0.take (IntKind.wrap .i64 ((IntKind.wrap .i64 (4 * x18)) + 4)).toNat).drop (IntKind.wrap .i64 (4 * x18)).toNat).getD (1 : Int).toNat 0).toNat))),
      .slot 29 100000 100000 (fun _ _ => (intVP .u32 (IntKind.wrap .u32 ((((a_0.take (IntKind.wrap .i64 ((IntKind.wrap .i64 (4 * x18)) + 4)).toNat).drop (IntKind.wrap .i64 (4 * x18)).toNat).getD (1 : Int).toNat 0).toNat)))),
      .slot 30 100000 100000 (fun _ _ => (intVP .u32 (shl .u32 (IntKind.wrap .u32 ((((a_0.take (IntKind.wrap .i64 ((IntKind.wrap .i64 (4 * x18)) + 4)).toNat).drop (IntKind.wrap .i64 (4 * x18)).toNat).getD (1 : Int).toNat 0).toNat)) 16))),
      .slot 31 100000 100000 (fun _ _ => (intVP .u32 (bits .or .u32 (shl .u32 (IntKind.wrap .u32 ((((a_0.take (IntKind.wrap .i64 ((IntKind.wrap .i64 (4 * x18)) + 4)).toNat).drop (IntKind.wrap .i64 (4 * x18)).toNat).getD (0 : Int).toNat 0).toNat)) 24) (shl .u32 (IntKind.wrap .u32 ((((a_0.take (IntKind.wrap .i64 ((IntKind.wrap .i64 (4 * x18)) + 4)).toNat).drop (IntKind.wrap .i64 (4 * x18)).toNat).getD (1 : Int).toNat 0).toNat)) 16)))),
      .slot 32 100000 100000 (fun _ _ => (strVP ((a_0.take (IntKind.wrap .i64 ((IntKind.wrap .i64 (4 * x18)) + 4)).toNat).drop (IntKind.wrap .i64 (4 * x18)).toNat))),
      .slot 33 100000 100000 (fun _ _ => (intVP .u8 ((((a_0.take (IntKind.wrap .i64 ((IntKind.wrap .i64 (4 * x18)) + 4)).toNat).drop (IntKind.wrap .i64 (4 * x18)).toNat).getD (2 : Int).toNat 0).toNat))),
      .slot 34 100000 100000 (fun _ _ => (intVP .u32 (IntKind.wrap .u32 ((((a_0.take (IntKind.wrap .i64 ((IntKind.wrap .i64 (4 * x18)) + 4)).toNat).drop (IntKind.wrap .i64 (4 * x18)).toNat).getD (2 : Int).toNat 0).toNat)))),
      .slot 35 100000 100000 (fun _ _ => (intVP .u32 (shl .u32 (IntKind.wrap .u32 ((((a_0.take (IntKind.wrap .i64 ((IntKind.wrap .i64 (4 * x18)) + 4)).toNat).drop (IntKind.wrap .i64 (4 * x18)).toNat).getD (2 : Int).toNat 0).toNat)) 8))),
      .slot 36 100000 100000 (fun _ _ => (intVP .u32 (bits .or .u32 (bits .or .u32 (shl .u32 (IntKind.wrap .u32 ((((a_0.take (IntKind.wrap .i64 ((IntKind.wrap .i64 (4 * x18)) + 4)).toNat).drop (IntKind.wrap .i64 (4 * x18)).toNat).getD (0 : Int).toNat 0).toNat)) 24) (shl .u32 (IntKind.wrap .u32 ((((a_0.take (IntKind.wrap .i64 ((IntKind.wrap .i64 (4 * x18)) + 4)).toNat).drop (IntKind.wrap .i64 (4 * x18)).toNat).getD (1 : Int).toNat 0).toNat)) 16)) (shl .u32 (IntKind.wrap .u32 ((((a_0.take (IntKind.wrap .i64 ((IntKind.wrap .i64 (4 * x18)) + 4)).toNat).drop (IntKind.wrap .i64 (4 * x18)).toNat).getD (2 : Int).toNat 0).toNat)) 8)))),
      .slot 37 100000 100000 (fun _ _ => (strVP ((a_0.take (IntKind.wrap .i64 ((IntKind.wrap .i64 (4 * x18)) + 4)).toNat).drop (IntKind.wrap .i64 (4 * x18)).toNat))),
      .slot 38 100000 100000 (fun _ _ => (intVP .u8 ((((a_0.take (IntKind.wrap .i64 ((IntKind.wrap .i64 (4 * x18)) + 4)).toNat).drop (IntKind.wrap .i64 (4 * x18)).toNat).getD (3 : Int).toNat 0).toNat))),
      .slot 39 100000 100000 (fun _ _ => (intVP .u32 (IntKind.wrap .u32 ((((a_0.take (IntKind.wrap .i64 ((IntKind.wrap .i64 (4 * x18)) + 4)).toNat).drop (IntKind.wrap .i64 (4 * x18)).toNat).getD (3 : Int).toNat 0).toNat)))),
      .slot 40 100000 100000 (fun _ _ => (intVP .u32 (bits .or .u32 (bits .or .u32 (bits .or .u32 (shl .u32 (IntKind.wrap .u32 ((((a_0.take (IntKind.wrap .i64 ((IntKind.wrap .i64 (4 * x18)) + 4)).toNat).drop (IntKind.wrap .i64 (4 * x18)).toNat).getD (0 : Int).toNat 0).toNat)) 24) (shl .u32 (IntKind.wrap .u32 ((((a_0.take (IntKind.wrap .i64 ((IntKind.wrap .i64 (4 * x18)) + 4)).toNat).drop (IntKind.wrap .i64 (4 * x18)).toNat).getD (1 : Int).toNat 0).toNat)) 16)) (shl .u32 (IntKind.wrap .u32 ((((a_0.take (IntKind.wrap .i64 ((IntKind.wrap .i64 (4 * x18)) + 4)).toNat).drop (IntKind.wrap .i64 (4 * x18)).toNat).getD (2 : Int).toNat 0).toNat)) 8)) (IntKind.wrap .u32 ((((a_0.take (IntKind.wrap .i64 ((IntKind.wrap .i64 (4 * x18)) + 4)).toNat).drop (IntKind.wrap .i64 (4 * x18)).toNat).getD (3 : Int).toNat 0).toNat))))),
      .slot 41 100000 100000 (fun _ _ => (lpVP p2 (0 + x18.toNat * 1))),
      .res 100000 100000 (fun _ _ => (lb p2 170 [intsCk .u32 64 (x19.set x18.toNat (bits .or .u32 (bits .or .u32 (bits .or .u32 (shl .u32 (IntKind.wrap .u32 ((((a_0.take (IntKind.wrap .i64 ((IntKind.wrap .i64 (4 * x18)) + 4)).toNat).drop (IntKind.wrap .i64 (4 * x18)).toNat).getD (0 : Int).toNat 0).toNat)) 24) (shl .u32 (IntKind.wrap .u32 ((((a_0.take (IntKind.wrap .i64 ((IntKind.wrap .i64 (4 * x18)) + 4)).toNat).drop (IntKind.wrap .i64 (4 * x18)).toNat).getD (1 : Int).toNat 0).toNat)) 16)) (shl .u32 (IntKind.wrap .u32 ((((a_0.take (IntKind.wrap .i64 ((IntKind.wrap .i64 (4 * x18)) + 4)).toNat).drop (IntKind.wrap .i64 (4 * x18)).toNat).getD (2 : Int).toNat 0).toNat)) 8)) (IntKind.wrap .u32 ((((a_0.take (IntKind.wrap .i64 ((IntKind.wrap .i64 (4 * x18)) + 4)).toNat).drop (IntKind.wrap .i64 (4 * x18)).toNat).getD (3 : Int).toNat 0).toNat))))]))] [0, 1, 2, 3, 4, 5, 6, 7, 8, 9, 10, 11, 12, 13, 14, 15, 16, 17, 18, 19, 20] [⟨[3], [], [8], [], some 22⟩, ⟨[4], [], [9], [], some 23⟩, ⟨[9], [], [10], [1], some 24⟩, ⟨[10], [], [11], [1, 2], some 25⟩, ⟨[11], [], [12], [1, 2, 3], some 26⟩, ⟨[4], [], [13], [], some 27⟩, ⟨[13], [], [14], [5], some 28⟩, ⟨[14], [], [15], [5, 6], some 29⟩, ⟨[15], [], [16], [5, 6, 7], some 30⟩, ⟨[12, 16], [], [17], [1, 2, 3, 4, 5, 6, 7, 8], some 31⟩, ⟨[4], [], [18], [], some 32⟩, ⟨[18], [], [19], [10], some 33⟩, ⟨[19], [], [20], [10, 11], some 34⟩, ⟨[20], [], [21], [10, 11, 12], some 35⟩, ⟨[17, 21], [], [22], [1, 2, 3, 4, 5, 6, 7, 8, 9, 10, 11, 12, 13], some 36⟩, ⟨[4], [], [23], [], some 37⟩, ⟨[23], [], [24], [15], some 38⟩, ⟨[24], [], [25], [15, 16], some 39⟩, ⟨[22, 25], [], [26], [1, 2, 3, 4, 5, 6, 7, 8, 9, 10, 11, 12, 13, 14, 15, 16, 17], some 40⟩, ⟨[2, 8], [], [27], [0, 1, 2, 3, 4, 5, 6, 7, 8, 9, 10, 11, 12, 13, 14, 15, 16, 17, 18], some 41⟩, ⟨[27, 26], [7], [28], [0, 1, 2, 3, 4, 5, 6, 7, 8, 9, 10, 11, 12, 13, 14, 15, 16, 17, 18, 19], none⟩] [0, 1, 2, 5, 6, 28] mixed hn hG h (by kernel_rfl) ?_ ?_
        · exact ⟨⟨rfl, fun β => (GOk.plain (op_move (opt 0 rfl)) rfl)⟩, ⟨rfl, fun β => (GOk.plain (op_move (opt 0 rfl)) rfl)⟩, ⟨rfl, fun β => (GOk.plain (op_index_str Tryd.underlying9 (opt 0 rfl) (opc (ic (by decide))) hv42) rfl)⟩, ⟨rfl, fun β => (GOk.plain (op_convert_int Tryd.underlying5 Tryd.underlying51 (opt 0 rfl)) rfl)⟩, ⟨rfl, fun β => (GOk.plain (op_bin (bin_shlu rfl) (opt 0 rfl) (opc (ic (by decide)))) rfl)⟩, ⟨rfl, fun β => (GOk.plain (op_move (opt 0 rfl)) rfl)⟩, ⟨rfl, fun β => (GOk.plain (op_index_str Tryd.underlying9 (opt 0 rfl) (opc (ic (by decide))) hv43) rfl)⟩, ⟨rfl, fun β => (GOk.plain (op_convert_int Tryd.underlying5 Tryd.underlying51 (opt 0 rfl)) rfl)⟩, ⟨rfl, fun β => (GOk.plain (op_bin (bin_shlu rfl) (opt 0 rfl) (opc (ic (by decide)))) rfl)⟩, ⟨rfl, fun β => (GOk.plain (op_bin bin_or (opt 0 rfl) (opt 1 rfl)) rfl)⟩, ⟨rfl, fun β => (GOk.plain (op_move (opt 0 rfl)) rfl)⟩, ⟨rfl, fun β => (GOk.plain (op_index_str Tryd.underlying9 (opt 0 rfl) (opc (ic (by decide))) hv44) rfl)⟩, ⟨rfl, fun β => (GOk.plain (op_convert_int Tryd.underlying5 Tryd.underlying51 (opt 0 rfl)) rfl)⟩, ⟨rfl, fun β => (GOk.plain (op_bin (bin_shlu rfl) (opt 0 rfl) (opc (ic (by decide)))) rfl)⟩, ⟨rfl, fun β => (GOk.plain (op_bin bin_or (opt 0 rfl) (opt 1 rfl)) rfl)⟩, ⟨rfl, fun β => (GOk.plain (op_move (opt 0 rfl)) rfl)⟩, ⟨rfl, fun β => (GOk.plain (op_index_str Tryd.underlying9 (opt 0 rfl) (opc (ic (by decide))) hv45) rfl)⟩, ⟨rfl, fun β => (GOk.plain (op_convert_int Tryd.underlying5 Tryd.underlying51 (opt 0 rfl)) rfl)⟩, ⟨rfl, fun β => (GOk.plain (op_bin bin_or (opt 0 rfl) (opt 1 rfl)) rfl)⟩, ⟨rfl, fun β => (GOk.plain (op_indexAddr_lb Tryd.underlying170 Tryd.sizeOf51 (opt 0 rfl) (opt 1 rfl) hv46) rfl)⟩, ⟨rfl, fun β => (GOk.plain (op_store_lbI (i := x18) [] [] Tryd.sizeOf51 (opt 0 rfl) (opt 1 rfl) rfl hv46) rfl)⟩, trivial⟩
        clear h
        intro β a w h
        change SatL c [.slot 0 (strVP a_0), .slot 2 (lpVP p1 0), .slot 3 (lpVP p2 0), .slot 10 (intVP .i64 x18), .res (lb p1 170 [intsCk .u32 64 (List.replicate 64 0)]), .res (lb p2 170 [intsCk .u32 64 (x19.set x18.toNat (bits .or .u32 (bits .or .u32 (bits .or .u32 (shl .u32 (IntKind.wrap .u32 ((((a_0.take (IntKind.wrap .i64 ((IntKind.wrap .i64 (4 * x18)) + 4)).toNat).drop (IntKind.wrap .i64 (4 * x18)).toNat).getD (0 : Int).toNat 0).toNat)) 24) (shl .u32 (IntKind.wrap .u32 ((((a_0.take (IntKind.wrap .i64 ((IntKind.wrap .i64 (4 * x18)) + 4)).toNat).drop (IntKind.wrap .i64 (4 * x18)).toNat).getD (1 : Int).toNat 0).toNat)) 16)) (shl .u32 (IntKind.wrap .u32 ((((a_0.take (IntKind.wrap .i64 ((IntKind.wrap .i64 (4 * x18)) + 4)).toNat).drop (IntKind.wrap .i64 (4 * x18)).toNat).getD (2 : Int).toNat 0).toNat)) 8)) (IntKind.wrap .u32 ((((a_0.take (IntKind.wrap .i64 ((IntKind.wrap .i64 (4 * x18)) + 4)).toNat).drop (IntKind.wrap .i64 (4 * x18)).toNat).getD (3 : Int).toNat 0).toNat))))])] a w at h
        clear β
        show Code.wp Tryd.prog _ _ a w
        refine wp_exit ?_
        show Code.wp Tryd.prog _ _ a w
        refine region_do (n := 83) [.slot 81 100000 100000 (fun _ _ => (intVP .i64 (IntKind.wrap .i64 (x18 + 1)))),
      .slot 10 100000 100000 (fun _ _ => (intVP .i64 (IntKind.wrap .i64 (x18 + 1))))] [0, 1] [⟨[3], [], [6], [], some 81⟩, ⟨[6], [3], [7], [0], some 10⟩] [0, 1, 2, 7, 4, 5] mixed hn hG h (by kernel_rfl) ?_ ?_
        · exact ⟨⟨rfl, fun β => (GOk.plain (op_bin bin_add (opt 0 rfl) (opc (ic (by decide)))) rfl)⟩, ⟨rfl, fun β => (GOk.drop _ (GOk.plain (op_move (opt 0 rfl)) rfl))⟩, trivial⟩
        clear h
        intro β a w h
        change SatL c [.slot 0 (strVP a_0), .slot 2 (lpVP p1 0), .slot 3 (lpVP p2 0), .slot 10 (intVP .i64 (IntKind.wrap .i64 (x18 + 1))), .res (lb p1 170 [intsCk .u32 64 (List.replicate 64 0)]), .res (lb p2 170 [intsCk .u32 64 (x19.set x18.toNat (bits .or .u32 (bits .or .u32 (bits .or .u32 (shl .u32 (IntKind.wrap .u32 ((((a_0.take (IntKind.wrap .i64 ((IntKind.wrap .i64 (4 * x18)) + 4)).toNat).drop (IntKind.wrap .i64 (4 * x18)).toNat).getD (0 : Int).toNat 0).toNat)) 24) (shl .u32 (IntKind.wrap .u32 ((((a_0.take (IntKind.wrap .i64 ((IntKind.wrap .i64 (4 * x18)) + 4)).toNat).drop (IntKind.wrap .i64 (4 * x18)).toNat).getD (1 : Int).toNat 0).toNat)) 16)) (shl .u32 (IntKind.wrap .u32 ((((a_0.take (IntKind.wrap .i64 ((IntKind.wrap .i64 (4 * x18)) + 4)).toNat).drop (IntKind.wrap .i64 (4 * x18)).toNat).getD (2 : Int).toNat 0).toNat)) 8)) (IntKind.wrap .u32 ((((a_0.take (IntKind.wrap .i64 ((IntKind.wrap .i64 (4 * x18)) + 4)).toNat).drop (IntKind.wrap .i64 (4 * x18)).toNat).getD (3 : Int).toNat 0).toNat))))])] a w at h
        clear β
        obtain rfl := Option.some.inj hF
        exact ⟨rfl, h.sub [0, 1, 2, 3, 4, 5] (by rfl)⟩
      · replace hF := ff_of hb40 hF
        replace h := h.sub [0, 1, 2, 3, 4, 6, 7] (by rfl)
        change SatL c [.slot 0 (strVP a_0), .slot 2 (lpVP p1 0), .slot 3 (lpVP p2 0), .slot 4 (intVP .i64 x18), .slot 10 (intVP .i64 x18), .res (lb p1 170 [intsCk .u32 64 (List.replicate 64 0)]), .res (lb p2 170 [intsCk .u32 64 x19])] a w at h
        refine wp_skip ?_
        show Code.wp Tryd.prog _ _ a w
        refine wp_seq ?_
        obtain ⟨hv47, hF⟩ := ite_some hF
        obtain ⟨hv48, hF⟩ := ite_some hF
        refine region_do (n := 83) [.slot 42 100000 100000 (fun _ _ => (intVP .i64 x18)),
      .slot 43 100000 100000 (fun _ _ => (intVP .i64 (IntKind.wrap .i64 (x18 - 15)))),
      .slot 44 100000 100000 (fun _ _ => (lpVP p2 (0 + (IntKind.wrap .i64 (x18 - 15)).toNat * 1))),
      .slot 45 100000 100000 (fun _ _ => (intVP .u32 (x19.getD (IntKind.wrap .i64 (x18 - 15)).toNat 0))),
      .slot 46 100000 100000 (fun _ _ => (intVP .i64 x18)),
      .slot 47 100000 100000 (fun _ _ => (intVP .i64 (IntKind.wrap .i64 (x18 - 2)))),
      .slot 48 100000 100000 (fun _ _ => (lpVP p2 (0 + (IntKind.wrap .i64 (x18 - 2)).toNat * 1))),
      .slot 49 100000 100000 (fun _ _ => (intVP .u32 (x19.getD (IntKind.wrap .i64 (x18 - 2)).toNat 0))),
      .slot 6 100000 100000 (fun _ _ => (intVP .u32 (x19.getD (IntKind.wrap .i64 (x18 - 15)).toNat 0))),
      .slot 7 100000 100000 (fun _ _ => (intVP .u32 (x19.getD (IntKind.wrap .i64 (x18 - 2)).toNat 0)))] [0, 1, 2, 3, 4, 5, 6, 7, 8, 9] [⟨[3], [], [7], [], some 42⟩, ⟨[7], [], [8], [0], some 43⟩, ⟨[2, 8], [], [9], [0, 1], some 44⟩, ⟨[9, 6], [], [10], [0, 1, 2], some 45⟩, ⟨[3], [], [11], [], some 46⟩, ⟨[11], [], [12], [4], some 47⟩, ⟨[2, 12], [], [13], [4, 5], some 48⟩, ⟨[13, 6], [], [14], [4, 5, 6], some 49⟩, ⟨[10], [], [15], [0, 1, 2, 3], some 6⟩, ⟨[14], [], [16], [0, 1, 2, 3, 4, 5, 6, 7, 8], some 7⟩] [0, 1, 2, 3, 15, 16, 4, 5, 6] mixed hn hG h (by kernel_rfl) ?_ ?_
        · exact ⟨⟨rfl, fun β => (GOk.plain (op_move (opt 0 rfl)) rfl)⟩, ⟨rfl, fun β => (GOk.plain (op_bin bin_sub (opt 0 rfl) (opc (ic (by decide)))) rfl)⟩, ⟨rfl, fun β => (GOk.plain (op_indexAddr_lb Tryd.underlying170 Tryd.sizeOf51 (opt 0 rfl) (opt 1 rfl) hv47) rfl)⟩, ⟨rfl, fun β => (GOk.plain (op_load_lbI (i := IntKind.wrap .i64 (x18 - 15)) [] [] 1 Tryd.isAgg51 (opt 0 rfl) rfl rfl hv47) rfl)⟩, ⟨rfl, fun β => (GOk.plain (op_move (opt 0 rfl)) rfl)⟩, ⟨rfl, fun β => (GOk.plain (op_bin bin_sub (opt 0 rfl) (opc (ic (by decide)))) rfl)⟩, ⟨rfl, fun β => (GOk.plain (op_indexAddr_lb Tryd.underlying170 Tryd.sizeOf51 (opt 0 rfl) (opt 1 rfl) hv48) rfl)⟩, ⟨rfl, fun β => (GOk.plain (op_load_lbI (i := IntKind.wrap .i64 (x18 - 2)) [] [] 1 Tryd.isAgg51 (opt 0 rfl) rfl rfl hv48) rfl)⟩, ⟨rfl, fun β => (GOk.plain (op_assign (opt 0 rfl)) rfl)⟩, ⟨rfl, fun β => (GOk.plain (op_assign (opt 0 rfl)) rfl)⟩, trivial⟩
        clear h
        intro β a w h
        change SatL c [.slot 0 (strVP a_0), .slot 2 (lpVP p1 0), .slot 3 (lpVP p2 0), .slot 4 (intVP .i64 x18), .slot 6 (intVP .u32 (x19.getD (IntKind.wrap .i64 (x18 - 15)).toNat 0)), .slot 7 (intVP .u32 (x19.getD (IntKind.wrap .i64 (x18 - 2)).toNat 0)), .slot 10 (intVP .i64 x18), .res (lb p1 170 [intsCk .u32 64 (List.replicate 64 0)]), .res (lb p2 170 [intsCk .u32 64 x19])] a w at h
        clear β
        show Code.wp Tryd.prog _ _ a w
        refine wp_seq ?_
        obtain ⟨r49, hr49, hF⟩ := bind_some hF
        obtain ⟨r50, hr50, hF⟩ := bind_some hF
        refine region_do (n := 83) [.slot 50 100000 100000 (fun _ _ => (intVP .u32 (x19.getD (IntKind.wrap .i64 (x18 - 15)).toNat 0))),
      .slot 51 100000 100000 (fun _ _ => (intVP .u32 r49)),
      .slot 52 100000 100000 (fun _ _ => (intVP .u32 (x19.getD (IntKind.wrap .i64 (x18 - 15)).toNat 0))),
      .slot 53 100000 100000 (fun _ _ => (intVP .u32 r50)),
      .slot 54 100000 100000 (fun _ _ => (intVP .u32 (bits .xor .u32 r49 r50))),
      .slot 55 100000 100000 (fun _ _ => (intVP .u32 (x19.getD (IntKind.wrap .i64 (x18 - 15)).toNat 0))),
      .slot 56 100000 100000 (fun _ _ => (intVP .u32 (shr .u32 (x19.getD (IntKind.wrap .i64 (x18 - 15)).toNat 0) 3))),
      .slot 57 100000 100000 (fun _ _ => (intVP .u32 (bits .xor .u32 (bits .xor .u32 r49 r50) (shr .u32 (x19.getD (IntKind.wrap .i64 (x18 - 15)).toNat 0) 3)))),
      .slot 8 100000 100000 (fun _ _ => (intVP .u32 (bits .xor .u32 (bits .xor .u32 r49 r50) (shr .u32 (x19.getD (IntKind.wrap .i64 (x18 - 15)).toNat 0) 3))))] [0, 1, 2, 3, 4, 5, 6, 7, 8] [⟨[4], [], [9], [], some 50⟩, ⟨[9], [], [10], [0], some 51⟩, ⟨[4], [], [11], [0, 1], some 52⟩, ⟨[11], [], [12], [0, 1, 2], some 53⟩, ⟨[10, 12], [], [13], [0, 1, 2, 3], some 54⟩, ⟨[4], [], [14], [0, 1, 2, 3, 4], some 55⟩, ⟨[14], [], [15], [0, 1, 2, 3, 4, 5], some 56⟩, ⟨[13, 15], [], [16], [0, 1, 2, 3, 4, 5, 6], some 57⟩, ⟨[16], [], [17], [0, 1, 2, 3, 4, 5, 6, 7], some 8⟩] [0, 1, 2, 3, 5, 17, 6, 7, 8] mixed hn hG h (by kernel_rfl) ?_ ?_
        · exact ⟨⟨rfl, fun β => (GOk.plain (op_move (opt 0 rfl)) rfl)⟩, ⟨rfl, fun β => (GOk.plain (op_call Tryd.call108 (bits_RotateLeft32_ok hr49) ⟨(opt 0 rfl), (opc (ic (by decide))), trivial⟩) rfl)⟩, ⟨rfl, fun β => (GOk.plain (op_move (opt 0 rfl)) rfl)⟩, ⟨rfl, fun β => (GOk.plain (op_call Tryd.call108 (bits_RotateLeft32_ok hr50) ⟨(opt 0 rfl), (opc (ic (by decide))), trivial⟩) rfl)⟩, ⟨rfl, fun β => (GOk.plain (op_bin bin_xor (opt 0 rfl) (opt 1 rfl)) rfl)⟩, ⟨rfl, fun β => (GOk.plain (op_move (opt 0 rfl)) rfl)⟩, ⟨rfl, fun β => (GOk.plain (op_bin (bin_shru rfl) (opt 0 rfl) (opc (ic (by decide)))) rfl)⟩, ⟨rfl, fun β => (GOk.plain (op_bin bin_xor (opt 0 rfl) (opt 1 rfl)) rfl)⟩, ⟨rfl, fun β => (GOk.plain (op_assign (opt 0 rfl)) rfl)⟩, trivial⟩
        clear h
        intro β a w h
        change SatL c [.slot 0 (strVP a_0), .slot 2 (lpVP p1 0), .slot 3 (lpVP p2 0), .slot 4 (intVP .i64 x18), .slot 7 (intVP .u32 (x19.getD (IntKind.wrap .i64 (x18 - 2)).toNat 0)), .slot 8 (intVP .u32 (bits .xor .u32 (bits .xor .u32 r49 r50) (shr .u32 (x19.getD (IntKind.wrap .i64 (x18 - 15)).toNat 0) 3))), .slot 10 (intVP .i64 x18), .res (lb p1 170 [intsCk .u32 64 (List.replicate 64 0)]), .res (lb p2 170 [intsCk .u32 64 x19])] a w at h
        clear β
        show Code.wp Tryd.prog _ _ a w
        refine wp_seq ?_
        obtain ⟨r51, hr51, hF⟩ := bind_some hF
        obtain ⟨r52, hr52, hF⟩ := bind_some hF
        refine region_do (n := 83) [.slot 58 100000 100000 (fun _ _ => (intVP .u32 (x19.getD (IntKind.wrap .i64 (x18 - 2)).toNat 0))),
      .slot 59 100000 100000 (fun _ _ => (intVP .u32 r51)),
      .slot 60 100000 100000 (fun _ _ => (intVP .u32 (x19.getD (IntKind.wrap .i64 (x18 - 2)).toNat 0))),
      .slot 61 100000 100000 (fun _ _ => (intVP .u32 r52)),
      .slot 62 100000 100000 (fun _ _ => (intVP .u32 (bits .xor .u32 r51 r52))),
      .slot 63 100000 100000 (fun _ _ => (intVP .u32 (x19.getD (IntKind.wrap .i64 (x18 - 2)).toNat 0))),
      .slot 64 100000 100000 (fun _ _ => (intVP .u32 (shr .u32 (x19.getD (IntKind.wrap .i64 (x18 - 2)).toNat 0) 10))),
      .slot 65 100000 100000 (fun _ _ => (intVP .u32 (bits .xor .u32 (bits .xor .u32 r51 r52) (shr .u32 (x19.getD (IntKind.wrap .i64 (x18 - 2)).toNat 0) 10)))),
      .slot 9 100000 100000 (fun _ _ => (intVP .u32 (bits .xor .u32 (bits .xor .u32 r51 r52) (shr .u32 (x19.getD (IntKind.wrap .i64 (x18 - 2)).toNat 0) 10))))] [0, 1, 2, 3, 4, 5, 6, 7, 8] [⟨[4], [], [9], [], some 58⟩, ⟨[9], [], [10], [0], some 59⟩, ⟨[4], [], [11], [0, 1], some 60⟩, ⟨[11], [], [12], [0, 1, 2], some 61⟩, ⟨[10, 12], [], [13], [0, 1, 2, 3], some 62⟩, ⟨[4], [], [14], [0, 1, 2, 3, 4], some 63⟩, ⟨[14], [], [15], [0, 1, 2, 3, 4, 5], some 64⟩, ⟨[13, 15], [], [16], [0, 1, 2, 3, 4, 5, 6], some 65⟩, ⟨[16], [], [17], [0, 1, 2, 3, 4, 5, 6, 7], some 9⟩] [0, 1, 2, 3, 5, 17, 6, 7, 8] mixed hn hG h (by kernel_rfl) ?_ ?_
        · exact ⟨⟨rfl, fun β => (GOk.plain (op_move (opt 0 rfl)) rfl)⟩, ⟨rfl, fun β => (GOk.plain (op_call Tryd.call108 (bits_RotateLeft32_ok hr51) ⟨(opt 0 rfl), (opc (ic (by decide))), trivial⟩) rfl)⟩, ⟨rfl, fun β => (GOk.plain (op_move (opt 0 rfl)) rfl)⟩, ⟨rfl, fun β => (GOk.plain (op_call Tryd.call108 (bits_RotateLeft32_ok hr52) ⟨(opt 0 rfl), (opc (ic (by decide))), trivial⟩) rfl)⟩, ⟨rfl, fun β => (GOk.plain (op_bin bin_xor (opt 0 rfl) (opt 1 rfl)) rfl)⟩, ⟨rfl, fun β => (GOk.plain (op_move (opt 0 rfl)) rfl)⟩, ⟨rfl, fun β => (GOk.plain (op_bin (bin_shru rfl) (opt 0 rfl) (opc (ic (by decide)))) rfl)⟩, ⟨rfl, fun β => (GOk.plain (op_bin bin_xor (opt 0 rfl) (opt 1 rfl)) rfl)⟩, ⟨rfl, fun β => (GOk.plain (op_assign (opt 0 rfl)) rfl)⟩, trivial⟩
        clear h
        intro β a w h
        change SatL c [.slot 0 (strVP a_0), .slot 2 (lpVP p1 0), .slot 3 (lpVP p2 0), .slot 4 (intVP .i64 x18), .slot 8 (intVP .u32 (bits .xor .u32 (bits .xor .u32 r49 r50) (shr .u32 (x19.getD (IntKind.wrap .i64 (x18 - 15)).toNat 0) 3))), .slot 9 (intVP .u32 (bits .xor .u32 (bits .xor .u32 r51 r52) (shr .u32 (x19.getD (IntKind.wrap .i64 (x18 - 2)).toNat 0) 10))), .slot 10 (intVP .i64 x18), .res (lb p1 170 [intsCk .u32 64 (List.replicate 64 0)]), .res (lb p2 170 [intsCk .u32 64 x19])] a w at h
        clear β
        show Code.wp Tryd.prog _ _ a w
        obtain ⟨hv53, hF⟩ := ite_some hF
        obtain ⟨hv54, hF⟩ := ite_some hF
        obtain ⟨hv55, hF⟩ := ite_some hF
        refine region_do (n := 83) [.slot 66 100000 100000 (fun _ _ => (intVP .i64 x18)),
      .slot 67 100000 100000 (fun _ _ => (intVP .i64 x18)),
      .slot 68 100000 100000 (fun _ _ => (intVP .i64 (IntKind.wrap .i64 (x18 - 16)))),
      .slot 69 100000 100000 (fun _ _ => (lpVP p2 (0 + (IntKind.wrap .i64 (x18 - 16)).toNat * 1))),
      .slot 70 100000 100000 (fun _ _ => (intVP .u32 (x19.getD (IntKind.wrap .i64 (x18 - 16)).toNat 0))),
      .slot 71 100000 100000 (fun _ _ => (intVP .u32 (bits .xor .u32 (bits .xor .u32 r49 r50) (shr .u32 (x19.getD (IntKind.wrap .i64 (x18 - 15)).toNat 0) 3)))),
      .slot 72 100000 100000 (fun _ _ => (intVP .u32 (IntKind.wrap .u32 ((x19.getD (IntKind.wrap .i64 (x18 - 16)).toNat 0) + (bits .xor .u32 (bits .xor .u32 r49 r50) (shr .u32 (x19.getD (IntKind.wrap .i64 (x18 - 15)).toNat 0) 3)))))),
      .slot 73 100000 100000 (fun _ _ => (intVP .i64 x18)),
      .slot 74 100000 100000 (fun _ _ => (intVP .i64 (IntKind.wrap .i64 (x18 - 7)))),
      .slot 75 100000 100000 (fun _ _ => (lpVP p2 (0 + (IntKind.wrap .i64 (x18 - 7)).toNat * 1))),
      .slot 76 100000 100000 (fun _ _ => (intVP .u32 (x19.getD (IntKind.wrap .i64 (x18 - 7)).toNat 0))),
      .slot 77 100000 100000 (fun _ _ => (intVP .u32 (IntKind.wrap .u32 ((IntKind.wrap .u32 ((x19.getD (IntKind.wrap .i64 (x18 - 16)).toNat 0) + (bits .xor .u32 (bits .xor .u32 r49 r50) (shr .u32 (x19.getD (IntKind.wrap .i64 (x18 - 15)).toNat 0) 3)))) + (x19.getD (IntKind.wrap .i64 (x18 - 7)).toNat 0))))),
      .slot 78 100000 100000 (fun _ _ => (intVP .u32 (bits .xor .u32 (bits .xor .u32 r51 r52) (shr .u32 (x19.getD (IntKind.wrap .i64 (x18 - 2)).toNat 0) 10)))),
      .slot 79 100000 100000 (fun _ _ => (intVP .u32 (IntKind.wrap .u32 ((IntKind.wrap .u32 ((IntKind.wrap .u32 ((x19.getD (IntKind.wrap .i64 (x18 - 16)).toNat 0) + (bits .xor .u32 (bits .xor .u32 r49 r50) (shr .u32 (x19.getD (IntKind.wrap .i64 (x18 - 15)).toNat 0) 3)))) + (x19.getD (IntKind.wrap .i64 (x18 - 7)).toNat 0))) + (bits .xor .u32 (bits .xor .u32 r51 r52) (shr .u32 (x19.getD (IntKind.wrap .i64 (x18 - 2)).toNat 0) 10)))))),
      .slot 80 100000 100000 (fun _ _ => (lpVP p2 (0 + x18.toNat * 1))),
      .res 100000 100000 (fun _ _ => (lb p2 170 [intsCk .u32 64 (x19.set x18.toNat (IntKind.wrap .u32 ((IntKind.wrap .u32 ((IntKind.wrap .u32 ((x19.getD (IntKind.wrap .i64 (x18 - 16)).toNat 0) + (bits .xor .u32 (bits .xor .u32 r49 r50) (shr .u32 (x19.getD (IntKind.wrap .i64 (x18 - 15)).toNat 0) 3)))) + (x19.getD (IntKind.wrap .i64 (x18 - 7)).toNat 0))) + (bits .xor .u32 (bits .xor .u32 r51 r52) (shr .u32 (x19.getD (IntKind.wrap .i64 (x18 - 2)).toNat 0) 10)))))]))] [0, 1, 2, 3, 4, 5, 6, 7, 8, 9, 10, 11, 12, 13, 14, 15] [⟨[3], [], [9], [], some 66⟩, ⟨[3], [], [10], [], some 67⟩, ⟨[10], [], [11], [1], some 68⟩, ⟨[2, 11], [], [12], [1, 2], some 69⟩, ⟨[12, 8], [], [13], [1, 2, 3], some 70⟩, ⟨[4], [], [14], [], some 71⟩, ⟨[13, 14], [], [15], [1, 2, 3, 4, 5], some 72⟩, ⟨[3], [], [16], [], some 73⟩, ⟨[16], [], [17], [7], some 74⟩, ⟨[2, 17], [], [18], [7, 8], some 75⟩, ⟨[18, 8], [], [19], [7, 8, 9], some 76⟩, ⟨[15, 19], [], [20], [1, 2, 3, 4, 5, 6, 7, 8, 9, 10], some 77⟩, ⟨[5], [], [21], [], some 78⟩, ⟨[20, 21], [], [22], [1, 2, 3, 4, 5, 6, 7, 8, 9, 10, 11, 12], some 79⟩, ⟨[2, 9], [], [23], [0, 1, 2, 3, 4, 5, 6, 7, 8, 9, 10, 11, 12, 13], some 80⟩, ⟨[23, 22], [8], [24], [0, 1, 2, 3, 4, 5, 6, 7, 8, 9, 10, 11, 12, 13, 14], none⟩] [0, 1, 2, 6, 7, 24] mixed hn hG h (by kernel_rfl) ?_ ?_
        · exact ⟨⟨rfl, fun β => (GOk.plain (op_move (opt 0 rfl)) rfl)⟩, ⟨rfl, fun β => (GOk.plain (op_move (opt 0 rfl)) rfl)⟩, ⟨rfl, fun β => (GOk.plain (op_bin bin_sub (opt 0 rfl) (opc (ic (by decide)))) rfl)⟩, ⟨rfl, fun β => (GOk.plain (op_indexAddr_lb Tryd.underlying170 Tryd.sizeOf51 (opt 0 rfl) (opt 1 rfl) hv53) rfl)⟩, ⟨rfl, fun β => (GOk.plain (op_load_lbI (i := IntKind.wrap .i64 (x18 - 16)) [] [] 1 Tryd.isAgg51 (opt 0 rfl) rfl rfl hv53) rfl)⟩, ⟨rfl, fun β => (GOk.plain (op_move (opt 0 rfl)) rfl)⟩, ⟨rfl, fun β => (GOk.plain (op_bin bin_add (opt 0 rfl) (opt 1 rfl)) rfl)⟩, ⟨rfl, fun β => (GOk.plain (op_move (opt 0 rfl)) rfl)⟩, ⟨rfl, fun β => (GOk.plain (op_bin bin_sub (opt 0 rfl) (opc (ic (by decide)))) rfl)⟩, ⟨rfl, fun β => (GOk.plain (op_indexAddr_lb Tryd.underlying170 Tryd.sizeOf51 (opt 0 rfl) (opt 1 rfl) hv54) rfl)⟩, ⟨rfl, fun β => (GOk.plain (op_load_lbI (i := IntKind.wrap .i64 (x18 - 7)) [] [] 1 Tryd.isAgg51 (opt 0 rfl) rfl rfl hv54) rfl)⟩, ⟨rfl, fun β => (GOk.plain (op_bin bin_add (opt 0 rfl) (opt 1 rfl)) rfl)⟩, ⟨rfl, fun β => (GOk.plain (op_move (opt 0 rfl)) rfl)⟩, ⟨rfl, fun β => (GOk.plain (op_bin bin_add (opt 0 rfl) (opt 1 rfl)) rfl)⟩, ⟨rfl, fun β => (GOk.plain (op_indexAddr_lb Tryd.underlying170 Tryd.sizeOf51 (opt 0 rfl) (opt 1 rfl) hv55) rfl)⟩, ⟨rfl, fun β => (GOk.plain (op_store_lbI (i := x18) [] [] Tryd.sizeOf51 (opt 0 rfl) (opt 1 rfl) rfl hv55) rfl)⟩, trivial⟩
        clear h
        intro β a w h
        change SatL c [.slot 0 (strVP a_0), .slot 2 (lpVP p1 0), .slot 3 (lpVP p2 0), .slot 10 (intVP .i64 x18), .res (lb p1 170 [intsCk .u32 64 (List.replicate 64 0)]), .res (lb p2 170 [intsCk .u32 64 (x19.set x18.toNat (IntKind.wrap .u32 ((IntKind.wrap .u32 ((IntKind.wrap .u32 ((x19.getD (IntKind.wrap .i64 (x18 - 16)).toNat 0) + (bits .xor .u32 (bits .xor .u32 r49 r50) (shr .u32 (x19.getD (IntKind.wrap .i64 (x18 - 15)).toNat 0) 3)))) + (x19.getD (IntKind.wrap .i64 (x18 - 7)).toNat 0))) + (bits .xor .u32 (bits .xor .u32 r51 r52) (shr .u32 (x19.getD (IntKind.wrap .i64 (x18 - 2)).toNat 0) 10)))))])] a w at h
        clear β
        show Code.wp Tryd.prog _ _ a w
        refine region_do (n := 83) [.slot 81 100000 100000 (fun _ _ => (intVP .i64 (IntKind.wrap .i64 (x18 + 1)))),
      .slot 10 100000 100000 (fun _ _ => (intVP .i64 (IntKind.wrap .i64 (x18 + 1))))] [0, 1] [⟨[3], [], [6], [], some 81⟩, ⟨[6], [3], [7], [0], some 10⟩] [0, 1, 2, 7, 4, 5] mixed hn hG h (by kernel_rfl) ?_ ?_
        · exact ⟨⟨rfl, fun β => (GOk.plain (op_bin bin_add (opt 0 rfl) (opc (ic (by decide)))) rfl)⟩, ⟨rfl, fun β => (GOk.drop _ (GOk.plain (op_move (opt 0 rfl)) rfl))⟩, trivial⟩
        clear h
        intro β a w h
        change SatL c [.slot 0 (strVP a_0), .slot 2 (lpVP p1 0), .slot 3 (lpVP p2 0), .slot 10 (intVP .i64 (IntKind.wrap .i64 (x18 + 1))), .res (lb p1 170 [intsCk .u32 64 (List.replicate 64 0)]), .res (lb p2 170 [intsCk .u32 64 (x19.set x18.toNat (IntKind.wrap .u32 ((IntKind.wrap .u32 ((IntKind.wrap .u32 ((x19.getD (IntKind.wrap .i64 (x18 - 16)).toNat 0) + (bits .xor .u32 (bits .xor .u32 r49 r50) (shr .u32 (x19.getD (IntKind.wrap .i64 (x18 - 15)).toNat 0) 3)))) + (x19.getD (IntKind.wrap .i64 (x18 - 7)).toNat 0))) + (bits .xor .u32 (bits .xor .u32 r51 r52) (shr .u32 (x19.getD (IntKind.wrap .i64 (x18 - 2)).toNat 0) 10)))))])] a w at h
        clear β
        obtain rfl := Option.some.inj hF
        exact ⟨rfl, h.sub [0, 1, 2, 3, 4, 5] (by rfl)⟩
    · replace hF := ff_of hb39 hF
      replace h := h.sub [0, 1, 2, 3, 5, 6] (by rfl)
      change SatL c [.slot 0 (strVP a_0), .slot 2 (lpVP p1 0), .slot 3 (lpVP p2 0), .slot 10 (intVP .i64 x18), .res (lb p1 170 [intsCk .u32 64 (List.replicate 64 0)]), .res (lb p2 170 [intsCk .u32 64 x19])] a w at h
      refine wp_exit ?_
      obtain rfl := Option.some.inj hF
      exact ⟨exit_ne _, rfl, h.sub [1, 2, 4, 5] (by rfl)⟩
  · clear hl57
    intro e a w hq
    cases cr56 with
    | ret r58 =>
      obtain ⟨rfl, hq⟩ := hq
      obtain rfl := Option.some.inj hF
      exact ⟨.inl rfl, hq⟩
    | next s59 =>
      obtain ⟨y60, y61⟩ := s59
      obtain ⟨rfl, h⟩ := hq
      change SatL c [.slot 2 (lpVP p1 0), .slot 3 (lpVP p2 0), .res (lb p1 170 [intsCk .u32 64 (List.replicate 64 0)]), .res (lb p2 170 [intsCk .u32 64 y61])] a w at h
      refine inBlock_at ?_
      show Code.wp Tryd.prog _ _ a w
      refine wp_seq ?_
      refine region_do (n := 83) [.slot 82 100000 100000 (fun _ _ => (aggVP [intsCk .u32 64 y61])),
      .res 100000 100000 (fun _ _ => (lb p1 170 [intsCk .u32 64 y61]))] [0, 1] [⟨[1, 3], [], [4], [], some 82⟩, ⟨[0, 4], [2], [5], [0], none⟩] [0, 5] mixed hn hG h (by kernel_rfl) ?_ ?_
      · exact ⟨⟨rfl, fun β => (GOk.plain (op_load_lb [] [intsCk .u32 64 y61] [] 1 Tryd.isAgg170 Tryd.sizeOf170 (opt 0 rfl) rfl rfl rfl) rfl)⟩, ⟨rfl, fun β => (GOk.plain (op_store_lb [] [intsCk .u32 64 (List.replicate 64 0)] [] [intsCk .u32 64 y61] Tryd.sizeOf170 (opt 0 rfl) (opt 1 rfl) (cells_agg _) rfl rfl rfl) rfl)⟩, trivial⟩
      clear h
      intro β a w h
      change SatL c [.slot 2 (lpVP p1 0), .res (lb p1 170 [intsCk .u32 64 y61])] a w at h
      clear β
      show Code.wp Tryd.prog _ _ a w
      refine wp_ret ?_
      obtain rfl := Option.some.inj hF
      exact ⟨.inl rfl, ret1 h Tryd.results107 (r_cell 0 1 rfl rfl Tryd.isAgg170 Tryd.sizeOf170 rfl) [] [] rfl rfl rfl⟩

def sha_Block.b1 (r4 : (List Int)) (x14 : Int) (x15 : List Int) : Option (Flow (List Int) (Int × (List Int))) := (if (decide (x14 < (64 : Int))) = true then ((bits_RotateLeft32 (x15.getD (4 : Int).toNat 0) (-6 : Int)).bind fun r27 => ((bits_RotateLeft32 (x15.getD (4 : Int).toNat 0) (-11 : Int)).bind fun r28 => ((bits_RotateLeft32 (x15.getD (4 : Int).toNat 0) (-25 : Int)).bind fun r29 => (if (0 : Int) ≤ x14 ∧ x14 < 64 then ((bits_RotateLeft32 (x15.getD (0 : Int).toNat 0) (-2 : Int)).bind fun r31 => ((bits_RotateLeft32 (x15.getD (0 : Int).toNat 0) (-13 : Int)).bind fun r32 => ((bits_RotateLeft32 (x15.getD (0 : Int).toNat 0) (-22 : Int)).bind fun r33 => some (.cont (IntKind.wrap .i64 (x14 + 1), ((x15.take (1 : Int).toNat ++ (x15.drop (0 : Int).toNat).take (min ((7 : Int).toNat - (0 : Int).toNat) ((8 : Int).toNat - (1 : Int).toNat)) ++ x15.drop ((1 : Int).toNat + (min ((7 : Int).toNat - (0 : Int).toNat) ((8 : Int).toNat - (1 : Int).toNat)))).set (4 : Int).toNat (IntKind.wrap .u32 (((x15.take (1 : Int).toNat ++ (x15.drop (0 : Int).toNat).take (min ((7 : Int).toNat - (0 : Int).toNat) ((8 : Int).toNat - (1 : Int).toNat)) ++ x15.drop ((1 : Int).toNat + (min ((7 : Int).toNat - (0 : Int).toNat) ((8 : Int).toNat - (1 : Int).toNat)))).getD (4 : Int).toNat 0) + (IntKind.wrap .u32 ((IntKind.wrap .u32 ((IntKind.wrap .u32 ((IntKind.wrap .u32 ((x15.getD (7 : Int).toNat 0) + (bits .xor .u32 (bits .xor .u32 r27 r28) r29))) + (bits .xor .u32 (bits .and .u32 (x15.getD (4 : Int).toNat 0) (x15.getD (5 : Int).toNat 0)) (bits .and .u32 (inot .u32 (x15.getD (4 : Int).toNat 0)) (x15.getD (6 : Int).toNat 0))))) + (gConst.getD x14.toNat 0))) + (r4.getD x14.toNat 0)))))).set (0 : Int).toNat (IntKind.wrap .u32 ((IntKind.wrap .u32 ((IntKind.wrap .u32 ((IntKind.wrap .u32 ((IntKind.wrap .u32 ((IntKind.wrap .u32 ((x15.getD (7 : Int).toNat 0) + (bits .xor .u32 (bits .xor .u32 r27 r28) r29))) + (bits .xor .u32 (bits .and .u32 (x15.getD (4 : Int).toNat 0) (x15.getD (5 : Int).toNat 0)) (bits .and .u32 (inot .u32 (x15.getD (4 : Int).toNat 0)) (x15.getD (6 : Int).toNat 0))))) + (gConst.getD x14.toNat 0))) + (r4.getD x14.toNat 0))) + (bits .xor .u32 (bits .xor .u32 r31 r32) r33))) + (bits .xor .u32 (bits .xor .u32 (bits .and .u32 (x15.getD (0 : Int).toNat 0) (x15.getD (1 : Int).toNat 0)) (bits .and .u32 (x15.getD (0 : Int).toNat 0) (x15.getD (2 : Int).toNat 0))) (bits .and .u32 (x15.getD (1 : Int).toNat 0) (x15.getD (2 : Int).toNat 0)))))))))) else none)))) else some (.brk (x14, x15)))
def sha_Block.b2 (a_0 : List Int) (x41 : Int) (x42 : List Int) : Option (Flow (List Int) (Int × (List Int))) := (if (decide (x41 < (8 : Int))) = true then (if (0 : Int) ≤ x41 ∧ x41 < 8 then some (.cont (IntKind.wrap .i64 (x41 + 1), x42.set x41.toNat (IntKind.wrap .u32 ((x42.getD x41.toNat 0) + (a_0.getD x41.toNat 0))))) else none) else some (.brk (x41, x42)))
def sha_Block (a_0 : List Int) (a_1 : List UInt8) : Option (List Int) := (if (!decide ((a_1.length : Int) = (64 : Int))) = true then some a_0 else ((sha_schedule a_1).bind fun r4 => ((loopN (fun s : Int × (List Int) => sha_Block.b1 r4 s.1 s.2) ((64 - 0 : Int).toNat + 2) (0, a_0)).bind fun cr => match cr with | .ret r => some r | .next (y38, y39) => ((loopN (fun s : Int × (List Int) => sha_Block.b2 a_0 s.1 s.2) ((8 - 0 : Int).toNat + 2) (0, y39)).bind fun cr => match cr with | .ret r => some r | .next (y53, y54) => some y54))))
set_option maxHeartbeats 4000000 in
theorem sha_Block_ok {a_0 : List Int} {a_1 : List UInt8} {r : (List Int)} (hF : sha_Block a_0 a_1 = some r) : CallOk Tryd.prog KG 102 [(aggVP [intsCk .u32 8 a_0]), (strVP a_1)] [] (fun _ => []) (aggVP [intsCk .u32 8 r]) := by
  refine CallOk.intro 113 Tryd.func102 rfl Tryd.ntmps102 (Nat.le_of_ble_eq_true rfl) ?_
  intro c a w hG hn h
  unfold sha_Block at hF
  change SatL c [.slot 0 (aggVP [intsCk .u32 8 a_0]), .slot 1 (strVP a_1)] a w at h
  refine wp_seq ?_
  refine region_do (n := 113) [.slot 2 0 100000 (fun v1_ _ => (lpVP v1_ 0)),
      .res 0 100000 (fun v1_ _ => (lb (v1_) 150 [intsCk .u32 8 a_0])),
      .slot 4 1 100000 (fun v1_ _ => (lpVP v1_ 0)),
      .res 1 100000 (fun v1_ _ => (lb (v1_) 150 [intsCk .u32 8 (List.replicate 8 0)]))] [0, 0, 1, 1] [⟨[0], [], [2, 3], [], some 2⟩, ⟨[], [], [4, 5], [0], some 4⟩] [1, 2, 4, 3, 5] mixed hn hG h (by kernel_rfl) ?_ ?_
  · exact ⟨⟨rfl, fun β => (GOk.plain (op_box (opt 0 rfl) (cells_agg _)) rfl)⟩, ⟨rfl, fun β => (GOk.plain (op_alloc Tryd.zeroValue150 z150) rfl)⟩, trivial⟩
  clear h
  intro β a w h
  change SatL c [.slot 1 (strVP a_1), .slot 2 (lpVP (β 0) 0), .slot 4 (lpVP (β 1) 0), .res (lb (β 0) 150 [intsCk .u32 8 a_0]), .res (lb (β 1) 150 [intsCk .u32 8 (List.replicate 8 0)])] a w at h
  generalize β 0 = p1 at h
  generalize β 1 = p2 at h
  clear β
  show Code.wp Tryd.prog _ _ a w
  refine wp_seq ?_
  refine wp_seq ?_
  refine region_do (n := 113) [.slot 16 100000 100000 (fun _ _ => (strVP a_1)),
      .slot 17 100000 100000 (fun _ _ => (intVP .i64 (a_1.length : Int))),
      .slot 18 100000 100000 (fun _ _ => (boolVP (!decide ((a_1.length : Int) = (64 : Int)))))] [0, 1, 2] [⟨[0], [], [5], [], some 16⟩, ⟨[5], [], [6], [0], some 17⟩, ⟨[6], [], [7], [0, 1], some 18⟩] [0, 1, 2, 7, 3, 4] mixed hn hG h (by kernel_rfl) ?_ ?_
  · exact ⟨⟨rfl, fun β => (GOk.plain (op_move (opt 0 rfl)) rfl)⟩, ⟨rfl, fun β => (GOk.plain (op_len_str Tryd.underlying9 (opt 0 rfl)) rfl)⟩, ⟨rfl, fun β => (GOk.plain (op_bin bin_neq (opt 0 rfl) (opc (ic (by decide)))) rfl)⟩, trivial⟩
  clear h
  intro β a w h
  change SatL c [.slot 1 (strVP a_1), .slot 2 (lpVP p1 0), .slot 4 (lpVP p2 0), .slot 18 (boolVP (!decide ((a_1.length : Int) = (64 : Int)))), .res (lb p1 150 [intsCk .u32 8 a_0]), .res (lb p2 150 [intsCk .u32 8 (List.replicate 8 0)])] a w at h
  clear β
  show Code.wp Tryd.prog _ _ a w
  refine cond_L h 3 rfl (fun hb3 => ?_) (fun hb3 => ?_)
  · replace hF := tt_of hb3 hF
    replace h := h.sub [1, 2, 4, 5] (by rfl)
    change SatL c [.slot 2 (lpVP p1 0), .slot 4 (lpVP p2 0), .res (lb p1 150 [intsCk .u32 8 a_0]), .res (lb p2 150 [intsCk .u32 8 (List.replicate 8 0)])] a w at h
    refine wp_seq ?_
    refine region_do (n := 113) [.slot 19 100000 100000 (fun _ _ => (aggVP [intsCk .u32 8 a_0])),
      .res 100000 100000 (fun _ _ => (lb p2 150 [intsCk .u32 8 a_0]))] [0, 1] [⟨[0, 2], [], [4], [], some 19⟩, ⟨[1, 4], [3], [5], [0], none⟩] [1, 5] mixed hn hG h (by kernel_rfl) ?_ ?_
    · exact ⟨⟨rfl, fun β => (GOk.plain (op_load_lb [] [intsCk .u32 8 a_0] [] 1 Tryd.isAgg150 Tryd.sizeOf150 (opt 0 rfl) rfl rfl rfl) rfl)⟩, ⟨rfl, fun β => (GOk.plain (op_store_lb [] [intsCk .u32 8 (List.replicate 8 0)] [] [intsCk .u32 8 a_0] Tryd.sizeOf150 (opt 0 rfl) (opt 1 rfl) (cells_agg _) rfl rfl rfl) rfl)⟩, trivial⟩
    clear h
    intro β a w h
    change SatL c [.slot 4 (lpVP p2 0), .res (lb p2 150 [intsCk .u32 8 a_0])] a w at h
    clear β
    show Code.wp Tryd.prog _ _ a w
    refine wp_ret ?_
    obtain rfl := Option.some.inj hF
    exact ⟨.inl rfl, ret1 h Tryd.results102 (r_cell 0 1 rfl rfl Tryd.isAgg150 Tryd.sizeOf150 rfl) [] [] rfl rfl rfl⟩
  · replace hF := ff_of hb3 hF
    replace h := h.sub [0, 1, 2, 4, 5] (by rfl)
    change SatL c [.slot 1 (strVP a_1), .slot 2 (lpVP p1 0), .slot 4 (lpVP p2 0), .res (lb p1 150 [intsCk .u32 8 a_0]), .res (lb p2 150 [intsCk .u32 8 (List.replicate 8 0)])] a w at h
    refine wp_skip ?_
    show Code.wp Tryd.prog _ _ a w
    refine wp_seq ?_
    obtain ⟨r4, hr4, hF⟩ := bind_some hF
    refine region_do (n := 113) [.slot 20 100000 100000 (fun _ _ => (strVP a_1)),
      .slot 21 100000 100000 (fun _ _ => (aggVP [intsCk .u32 64 r4])),
      .slot 5 2 100000 (fun v1_ _ => (lpVP v1_ 0)),
      .res 2 100000 (fun v1_ _ => (lb (v1_) 170 [intsCk .u32 64 (List.replicate 64 0)])),
      .res 2 100000 (fun v1_ _ => (lb (v1_) 170 [intsCk .u32 64 r4]))] [0, 1, 2, 2, 3] [⟨[0], [], [5], [], some 20⟩, ⟨[5], [], [6], [0], some 21⟩, ⟨[], [], [7, 8], [0, 1], some 5⟩, ⟨[7, 6], [8], [9], [0, 1, 2], none⟩] [1, 2, 7, 3, 4, 9] mixed hn hG h (by kernel_rfl) ?_ ?_
    · exact ⟨⟨rfl, fun β => (GOk.plain (op_move (opt 0 rfl)) rfl)⟩, ⟨rfl, fun β => (GOk.plain (op_call Tryd.call107 (sha_schedule_ok hr4) ⟨(opt 0 rfl), trivial⟩) rfl)⟩, ⟨rfl, fun β => (GOk.plain (op_alloc Tryd.zeroValue170 z170) rfl)⟩, ⟨rfl, fun β => (GOk.plain (op_store_lb [] [intsCk .u32 64 (List.replicate 64 0)] [] [intsCk .u32 64 r4] Tryd.sizeOf170 (opt 0 rfl) (opt 1 rfl) (cells_agg _) rfl rfl rfl) rfl)⟩, trivial⟩
    clear h
    intro β a w h
    change SatL c [.slot 2 (lpVP p1 0), .slot 4 (lpVP p2 0), .slot 5 (lpVP (β 2) 0), .res (lb p1 150 [intsCk .u32 8 a_0]), .res (lb p2 150 [intsCk .u32 8 (List.replicate 8 0)]), .res (lb (β 2) 170 [intsCk .u32 64 r4])] a w at h
    generalize β 2 = p5 at h
    clear β
    show Code.wp Tryd.prog _ _ a w
    refine wp_seq ?_
    refine region_do (n := 113) [.slot 22 100000 100000 (fun _ _ => (aggVP [intsCk .u32 8 a_0])),
      .slot 6 1 100000 (fun v1_ _ => (lpVP v1_ 0)),
      .res 1 100000 (fun v1_ _ => (lb (v1_) 150 [intsCk .u32 8 (List.replicate 8 0)])),
      .res 1 100000 (fun v1_ _ => (lb (v1_) 150 [intsCk .u32 8 a_0]))] [0, 1, 1, 2] [⟨[0, 3], [], [6], [], some 22⟩, ⟨[], [], [7, 8], [0], some 6⟩, ⟨[7, 6], [8], [9], [0, 1], none⟩] [0, 1, 2, 7, 3, 4, 5, 9] mixed hn hG h (by kernel_rfl) ?_ ?_
    · exact ⟨⟨rfl, fun β => (GOk.plain (op_load_lb [] [intsCk .u32 8 a_0] [] 1 Tryd.isAgg150 Tryd.sizeOf150 (opt 0 rfl) rfl rfl rfl) rfl)⟩, ⟨rfl, fun β => (GOk.plain (op_alloc Tryd.zeroValue150 z150) rfl)⟩, ⟨rfl, fun β => (GOk.plain (op_store_lb [] [intsCk .u32 8 (List.replicate 8 0)] [] [intsCk .u32 8 a_0] Tryd.sizeOf150 (opt 0 rfl) (opt 1 rfl) (cells_agg _) rfl rfl rfl) rfl)⟩, trivial⟩
    clear h
    intro β a w h
    change SatL c [.slot 2 (lpVP p1 0), .slot 4 (lpVP p2 0), .slot 5 (lpVP p5 0), .slot 6 (lpVP (β 1) 0), .res (lb p1 150 [intsCk .u32 8 a_0]), .res (lb p2 150 [intsCk .u32 8 (List.replicate 8 0)]), .res (lb p5 170 [intsCk .u32 64 r4]), .res (lb (β 1) 150 [intsCk .u32 8 a_0])] a w at h
    generalize β 1 = p6 at h
    clear β
    show Code.wp Tryd.prog _ _ a w
    refine wp_seq ?_
    refine wp_seq ?_
    refine region_do (n := 113) [.slot 23 100000 100000 (fun _ _ => (intVP .i64 0))] [0] [⟨[], [], [8], [], some 23⟩] [0, 1, 2, 3, 8, 4, 5, 6, 7] mixed hn hG h (by kernel_rfl) ?_ ?_
    · exact ⟨⟨rfl, fun β => (GOk.plain (op_move (opc (ic (by decide)))) rfl)⟩, trivial⟩
    clear h
    intro β a w h
    change SatL c [.slot 2 (lpVP p1 0), .slot 4 (lpVP p2 0), .slot 5 (lpVP p5 0), .slot 6 (lpVP p6 0), .slot 23 (intVP .i64 0), .res (lb p1 150 [intsCk .u32 8 a_0]), .res (lb p2 150 [intsCk .u32 8 (List.replicate 8 0)]), .res (lb p5 170 [intsCk .u32 64 r4]), .res (lb p6 150 [intsCk .u32 8 a_0])] a w at h
    clear β
    show Code.wp Tryd.prog _ _ a w
    refine wp_block ?_
    obtain ⟨cr34, hl35, hF⟩ := bind_some hF
    refine wp_mono (wp_loopN (R := (List Int)) (S := Int × (List Int)) (fun s a w => SatL c [.slot 2 (lpVP p1 0), .slot 4 (lpVP p2 0), .slot 5 (lpVP p5 0), .slot 6 (lpVP p6 0), .slot 23 (intVP .i64 s.1), .res (lb p1 150 [intsCk .u32 8 a_0]), .res (lb p2 150 [intsCk .u32 8 (List.replicate 8 0)]), .res (lb p5 170 [intsCk .u32 64 r4]), .res (lb p6 150 [intsCk .u32 8 s.2])] a w) (fun res e a w => match res with | .next s => e = .exit 0 ∧ SatL c [.slot 2 (lpVP p1 0), .slot 4 (lpVP p2 0), .slot 6 (lpVP p6 0), .res (lb p1 150 [intsCk .u32 8 a_0]), .res (lb p2 150 [intsCk .u32 8 (List.replicate 8 0)]), .res (lb p6 150 [intsCk .u32 8 s.2])] a w | .ret r => e = .ret ∧ RetOk Tryd.prog Tryd.f102 c (aggVP [intsCk .u32 8 r]) (fun _ => []) a w) ?_ _ (0, a_0) _ _ _ (h.sub [0, 1, 2, 3, 4, 5, 6, 7, 8] (by rfl)) hl35) ?_
    · clear hl35 hF h
      intro s a w o h hF
      obtain ⟨x14, x15⟩ := s
      change sha_Block.b1 r4 x14 x15 = some o at hF
      unfold sha_Block.b1 at hF
      change SatL c [.slot 2 (lpVP p1 0), .slot 4 (lpVP p2 0), .slot 5 (lpVP p5 0), .slot 6 (lpVP p6 0), .slot 23 (intVP .i64 x14), .res (lb p1 150 [intsCk .u32 8 a_0]), .res (lb p2 150 [intsCk .u32 8 (List.replicate 8 0)]), .res (lb p5 170 [intsCk .u32 64 r4]), .res (lb p6 150 [intsCk .u32 8 x15])] a w at h
      refine wp_seq ?_
      refine region_do (n := 113) [.slot 24 100000 100000 (fun _ _ => (boolVP (decide (x14 < (64 : Int)))))] [0] [⟨[4], [], [9], [], some 24⟩] [0, 1, 2, 3, 4, 9, 5, 6, 7, 8] mixed hn hG h (by kernel_rfl) ?_ ?_
      · exact ⟨⟨rfl, fun β => (GOk.plain (op_bin bin_lss (opt 0 rfl) (opc (ic (by decide)))) rfl)⟩, trivial⟩
      clear h
      intro β a w h
      change SatL c [.slot 2 (lpVP p1 0), .slot 4 (lpVP p2 0), .slot 5 (lpVP p5 0), .slot 6 (lpVP p6 0), .slot 23 (intVP .i64 x14), .slot 24 (boolVP (decide (x14 < (64 : Int)))), .res (lb p1 150 [intsCk .u32 8 a_0]), .res (lb p2 150 [intsCk .u32 8 (List.replicate 8 0)]), .res (lb p5 170 [intsCk .u32 64 r4]), .res (lb p6 150 [intsCk .u32 8 x15])] a w at h
      clear β
      show Code.wp Tryd.prog _ _ a w
      refine wp_seq ?_
      refine cond_L h 5 rfl (fun hb26 => ?_) (fun hb26 => ?_)
      · replace hF := tt_of hb26 hF
        replace h := h.sub [0, 1, 2, 3, 4, 6, 7, 8, 9] (by rfl)
        change SatL c [.slot 2 (lpVP p1 0), .slot 4 (lpVP p2 0), .slot 5 (lpVP p5 0), .slot 6 (lpVP p6 0), .slot 23 (intVP .i64 x14), .res (lb p1 150 [intsCk .u32 8 a_0]), .res (lb p2 150 [intsCk .u32 8 (List.replicate 8 0)]), .res (lb p5 170 [intsCk .u32 64 r4]), .res (lb p6 150 [intsCk .u32 8 x15])] a w at h
        refine wp_skip ?_
        show Code.wp Tryd.prog _ _ a w
        refine wp_seq ?_
        refine wp_block ?_
        refine wp_seq ?_
        refine region_do (n := 113) [.slot 25 100000 100000 (fun _ _ => (intVP .i64 x14)),
      .slot 7 100000 100000 (fun _ _ => (intVP .i64 x14))] [0, 1] [⟨[4], [], [9], [], some 25⟩, ⟨[9], [], [10], [0], some 7⟩] [0, 1, 2, 3, 10, 4, 5, 6, 7, 8] mixed hn hG h (by kernel_rfl) ?_ ?_
        · exact ⟨⟨rfl, fun β => (GOk.plain (op_move (opt 0 rfl)) rfl)⟩, ⟨rfl, fun β => (GOk.plain (op_assign (opt 0 rfl)) rfl)⟩, trivial⟩
        clear h
        intro β a w h
        change SatL c [.slot 2 (lpVP p1 0), .slot 4 (lpVP p2 0), .slot 5 (lpVP p5 0), .slot 6 (lpVP p6 0), .slot 7 (intVP .i64 x14), .slot 23 (intVP .i64 x14), .res (lb p1 150 [intsCk .u32 8 a_0]), .res (lb p2 150 [intsCk .u32 8 (List.replicate 8 0)]), .res (lb p5 170 [intsCk .u32 64 r4]), .res (lb p6 150 [intsCk .u32 8 x15])] a w at h
        clear β
        show Code.wp Tryd.prog _ _ a w
        refine wp_seq ?_
        refine region_do (n := 113) [.slot 26 100000 100000 (fun _ _ => (lpVP p6 (0 + (0 : Int).toNat * 1))),
      .slot 27 100000 100000 (fun _ _ => (intVP .u32 (x15.getD (0 : Int).toNat 0))),
      .slot 28 100000 100000 (fun _ _ => (lpVP p6 (0 + (4 : Int).toNat * 1))),
      .slot 29 100000 100000 (fun _ _ => (intVP .u32 (x15.getD (4 : Int).toNat 0))),
      .slot 8 100000 100000 (fun _ _ => (intVP .u32 (x15.getD (0 : Int).toNat 0))),
      .slot 9 100000 100000 (fun _ _ => (intVP .u32 (x15.getD (4 : Int).toNat 0)))] [0, 1, 2, 3, 4, 5] [⟨[3], [], [10], [], some 26⟩, ⟨[10, 9], [], [11], [0], some 27⟩, ⟨[3], [], [12], [], some 28⟩, ⟨[12, 9], [], [13], [2], some 29⟩, ⟨[11], [], [14], [0, 1], some 8⟩, ⟨[13], [], [15], [0, 1, 2, 3, 4], some 9⟩] [0, 1, 2, 3, 4, 14, 15, 5, 6, 7, 8, 9] mixed hn hG h (by kernel_rfl) ?_ ?_
        · exact ⟨⟨rfl, fun β => (GOk.plain (op_indexAddr_lb Tryd.underlying150 Tryd.sizeOf51 (opt 0 rfl) (opc (ic (by decide))) (by decide)) rfl)⟩, ⟨rfl, fun β => (GOk.plain (op_load_lbI (i := 0) [] [] 1 Tryd.isAgg51 (opt 0 rfl) rfl rfl (by decide)) rfl)⟩, ⟨rfl, fun β => (GOk.plain (op_indexAddr_lb Tryd.underlying150 Tryd.sizeOf51 (opt 0 rfl) (opc (ic (by decide))) (by decide)) rfl)⟩, ⟨rfl, fun β => (GOk.plain (op_load_lbI (i := 4) [] [] 1 Tryd.isAgg51 (opt 0 rfl) rfl rfl (by decide)) rfl)⟩, ⟨rfl, fun β => (GOk.plain (op_assign (opt 0 rfl)) rfl)⟩, ⟨rfl, fun β => (GOk.plain (op_assign (opt 0 rfl)) rfl)⟩, trivial⟩
        clear h
        intro β a w h
        change SatL c [.slot 2 (lpVP p1 0), .slot 4 (lpVP p2 0), .slot 5 (lpVP p5 0), .slot 6 (lpVP p6 0), .slot 7 (intVP .i64 x14), .slot 8 (intVP .u32 (x15.getD (0 : Int).toNat 0)), .slot 9 (intVP .u32 (x15.getD (4 : Int).toNat 0)), .slot 23 (intVP .i64 x14), .res (lb p1 150 [intsCk .u32 8 a_0]), .res (lb p2 150 [intsCk .u32 8 (List.replicate 8 0)]), .res (lb p5 170 [intsCk .u32 64 r4]), .res (lb p6 150 [intsCk .u32 8 x15])] a w at h
        clear β
        show Code.wp Tryd.prog _ _ a w
        refine wp_seq ?_
        obtain ⟨r27, hr27, hF⟩ := bind_some hF
        obtain ⟨r28, hr28, hF⟩ := bind_some hF
        obtain ⟨r29, hr29, hF⟩ := bind_some hF
        refine region_do (n := 113) [.slot 30 100000 100000 (fun _ _ => (intVP .u32 (x15.getD (4 : Int).toNat 0))),
      .slot 31 100000 100000 (fun _ _ => (intVP .u32 r27)),
      .slot 32 100000 100000 (fun _ _ => (intVP .u32 (x15.getD (4 : Int).toNat 0))),
      .slot 33 100000 100000 (fun _ _ => (intVP .u32 r28)),
      .slot 34 100000 100000 (fun _ _ => (intVP .u32 (bits .xor .u32 r27 r28))),
      .slot 35 100000 100000 (fun _ _ => (intVP .u32 (x15.getD (4 : Int).toNat 0))),
      .slot 36 100000 100000 (fun _ _ => (intVP .u32 r29)),
      .slot 37 100000 100000 (fun _ _ => (intVP .u32 (bits .xor .u32 (bits .xor .u32 r27 r28) r29))),
      .slot 10 100000 100000 (fun _ _ => (intVP .u32 (bits .xor .u32 (bits .xor .u32 r27 r28) r29)))] [0, 1, 2, 3, 4, 5, 6, 7, 8] [⟨[6], [], [12], [], some 30⟩, ⟨[12], [], [13], [0], some 31⟩, ⟨[6], [], [14], [0, 1], some 32⟩, ⟨[14], [], [15], [0, 1, 2], some 33⟩, ⟨[13, 15], [], [16], [0, 1, 2, 3], some 34⟩, ⟨[6], [], [17], [0, 1, 2, 3, 4], some 35⟩, ⟨[17], [], [18], [0, 1, 2, 3, 4, 5], some 36⟩, ⟨[16, 18], [], [19], [0, 1, 2, 3, 4, 5, 6], some 37⟩, ⟨[19], [], [20], [0, 1, 2, 3, 4, 5, 6, 7], some 10⟩] [0, 1, 2, 3, 4, 5, 6, 20, 7, 8, 9, 10, 11] mixed hn hG h (by kernel_rfl) ?_ ?_
        · exact ⟨⟨rfl, fun β => (GOk.plain (op_move (opt 0 rfl)) rfl)⟩, ⟨rfl, fun β => (GOk.plain (op_call Tryd.call108 (bits_RotateLeft32_ok hr27) ⟨(opt 0 rfl), (opc (ic (by decide))), trivial⟩) rfl)⟩, ⟨rfl, fun β => (GOk.plain (op_move (opt 0 rfl)) rfl)⟩, ⟨rfl, fun β => (GOk.plain (op_call Tryd.call108 (bits_RotateLeft32_ok hr28) ⟨(opt 0 rfl), (opc (ic (by decide))), trivial⟩) rfl)⟩, ⟨rfl, fun β => (GOk.plain (op_bin bin_xor (opt 0 rfl) (opt 1 rfl)) rfl)⟩, ⟨rfl, fun β => (GOk.plain (op_move (opt 0 rfl)) rfl)⟩, ⟨rfl, fun β => (GOk.plain (op_call Tryd.call108 (bits_RotateLeft32_ok hr29) ⟨(opt 0 rfl), (opc (ic (by decide))), trivial⟩) rfl)⟩, ⟨rfl, fun β => (GOk.plain (op_bin bin_xor (opt 0 rfl) (opt 1 rfl)) rfl)⟩, ⟨rfl, fun β => (GOk.plain (op_assign (opt 0 rfl)) rfl)⟩, trivial⟩
        clear h
        intro β a w h
        change SatL c [.slot 2 (lpVP p1 0), .slot 4 (lpVP p2 0), .slot 5 (lpVP p5 0), .slot 6 (lpVP p6 0), .slot 7 (intVP .i64 x14), .slot 8 (intVP .u32 (x15.getD (0 : Int).toNat 0)), .slot 9 (intVP .u32 (x15.getD (4 : Int).toNat 0)), .slot 10 (intVP .u32 (bits .xor .u32 (bits .xor .u32 r27 r28) r29)), .slot 23 (intVP .i64 x14), .res (lb p1 150 [intsCk .u32 8 a_0]), .res (lb p2 150 [intsCk .u32 8 (List.replicate 8 0)]), .res (lb p5 170 [intsCk .u32 64 r4]), .res (lb p6 150 [intsCk .u32 8 x15])] a w at h
        clear β
        show Code.wp Tryd.prog _ _ a w
        refine wp_seq ?_
        refine region_do (n := 113) [.slot 38 100000 100000 (fun _ _ => (intVP .u32 (x15.getD (4 : Int).toNat 0))),
      .slot 39 100000 100000 (fun _ _ => (lpVP p6 (0 + (5 : Int).toNat * 1))),
      .slot 40 100000 100000 (fun _ _ => (intVP .u32 (x15.getD (5 : Int).toNat 0))),
      .slot 41 100000 100000 (fun _ _ => (intVP .u32 (bits .and .u32 (x15.getD (4 : Int).toNat 0) (x15.getD (5 : Int).toNat 0)))),
      .slot 42 100000 100000 (fun _ _ => (intVP .u32 (x15.getD (4 : Int).toNat 0))),
      .slot 43 100000 100000 (fun _ _ => (intVP .u32 (inot .u32 (x15.getD (4 : Int).toNat 0)))),
      .slot 44 100000 100000 (fun _ _ => (lpVP p6 (0 + (6 : Int).toNat * 1))),
      .slot 45 100000 100000 (fun _ _ => (intVP .u32 (x15.getD (6 : Int).toNat 0))),
      .slot 46 100000 100000 (fun _ _ => (intVP .u32 (bits .and .u32 (inot .u32 (x15.getD (4 : Int).toNat 0)) (x15.getD (6 : Int).toNat 0)))),
      .slot 47 100000 100000 (fun _ _ => (intVP .u32 (bits .xor .u32 (bits .and .u32 (x15.getD (4 : Int).toNat 0) (x15.getD (5 : Int).toNat 0)) (bits .and .u32 (inot .u32 (x15.getD (4 : Int).toNat 0)) (x15.getD (6 : Int).toNat 0))))),
      .slot 11 100000 100000 (fun _ _ => (intVP .u32 (bits .xor .u32 (bits .and .u32 (x15.getD (4 : Int).toNat 0) (x15.getD (5 : Int).toNat 0)) (bits .and .u32 (inot .u32 (x15.getD (4 : Int).toNat 0)) (x15.getD (6 : Int).toNat 0)))))] [0, 1, 2, 3, 4, 5, 6, 7, 8, 9, 10] [⟨[6], [], [13], [], some 38⟩, ⟨[3], [], [14], [0], some 39⟩, ⟨[14, 12], [], [15], [0, 1], some 40⟩, ⟨[13, 15], [], [16], [0, 1, 2], some 41⟩, ⟨[6], [], [17], [0, 1, 2, 3], some 42⟩, ⟨[17], [], [18], [0, 1, 2, 3, 4], some 43⟩, ⟨[3], [], [19], [0, 1, 2, 3, 4, 5], some 44⟩, ⟨[19, 12], [], [20], [0, 1, 2, 3, 4, 5, 6], some 45⟩, ⟨[18, 20], [], [21], [0, 1, 2, 3, 4, 5, 6, 7], some 46⟩, ⟨[16, 21], [], [22], [0, 1, 2, 3, 4, 5, 6, 7, 8], some 47⟩, ⟨[22], [], [23], [0, 1, 2, 3, 4, 5, 6, 7, 8, 9], some 11⟩] [0, 1, 2, 3, 4, 5, 7, 23, 8, 9, 10, 11, 12] mixed hn hG h (by kernel_rfl) ?_ ?_
        · exact ⟨⟨rfl, fun β => (GOk.plain (op_move (opt 0 rfl)) rfl)⟩, ⟨rfl, fun β => (GOk.plain (op_indexAddr_lb Tryd.underlying150 Tryd.sizeOf51 (opt 0 rfl) (opc (ic (by decide))) (by decide)) rfl)⟩, ⟨rfl, fun β => (GOk.plain (op_load_lbI (i := 5) [] [] 1 Tryd.isAgg51 (opt 0 rfl) rfl rfl (by decide)) rfl)⟩, ⟨rfl, fun β => (GOk.plain (op_bin bin_and (opt 0 rfl) (opt 1 rfl)) rfl)⟩, ⟨rfl, fun β => (GOk.plain (op_move (opt 0 rfl)) rfl)⟩, ⟨rfl, fun β => (GOk.plain (op_un (un_xor _ _) (opt 0 rfl)) rfl)⟩, ⟨rfl, fun β => (GOk.plain (op_indexAddr_lb Tryd.underlying150 Tryd.sizeOf51 (opt 0 rfl) (opc (ic (by decide))) (by decide)) rfl)⟩, ⟨rfl, fun β => (GOk.plain (op_load_lbI (i := 6) [] [] 1 Tryd.isAgg51 (opt 0 rfl) rfl rfl (by decide)) rfl)⟩, ⟨rfl, fun β => (GOk.plain (op_bin bin_and (opt 0 rfl) (opt 1 rfl)) rfl)⟩, ⟨rfl, fun β => (GOk.plain (op_bin bin_xor (opt 0 rfl) (opt 1 rfl)) rfl)⟩, ⟨rfl, fun β => (GOk.plain (op_assign (opt 0 rfl)) rfl)⟩, trivial⟩
        clear h
        intro β a w h
        change SatL c [.slot 2 (lpVP p1 0), .slot 4 (lpVP p2 0), .slot 5 (lpVP p5 0), .slot 6 (lpVP p6 0), .slot 7 (intVP .i64 x14), .slot 8 (intVP .u32 (x15.getD (0 : Int).toNat 0)), .slot 10 (intVP .u32 (bits .xor .u32 (bits .xor .u32 r27 r28) r29)), .slot 11 (intVP .u32 (bits .xor .u32 (bits .and .u32 (x15.getD (4 : Int).toNat 0) (x15.getD (5 : Int).toNat 0)) (bits .and .u32 (inot .u32 (x15.getD (4 : Int).toNat 0)) (x15.getD (6 : Int).toNat 0)))), .slot 23 (intVP .i64 x14), .res (lb p1 150 [intsCk .u32 8 a_0]), .res (lb p2 150 [intsCk .u32 8 (List.replicate 8 0)]), .res (lb p5 170 [intsCk .u32 64 r4]), .res (lb p6 150 [intsCk .u32 8 x15])] a w at h
        clear β
        show Code.wp Tryd.prog _ _ a w
        refine wp_seq ?_
        obtain ⟨hv30, hF⟩ := ite_some hF
        refine region_do (n := 113) [.slot 48 100000 100000 (fun _ _ => (lpVP p6 (0 + (7 : Int).toNat * 1))),
      .slot 49 100000 100000 (fun _ _ => (intVP .u32 (x15.getD (7 : Int).toNat 0))),
      .slot 50 100000 100000 (fun _ _ => (intVP .u32 (bits .xor .u32 (bits .xor .u32 r27 r28) r29))),
      .slot 51 100000 100000 (fun _ _ => (intVP .u32 (IntKind.wrap .u32 ((x15.getD (7 : Int).toNat 0) + (bits .xor .u32 (bits .xor .u32 r27 r28) r29))))),
      .slot 52 100000 100000 (fun _ _ => (intVP .u32 (bits .xor .u32 (bits .and .u32 (x15.getD (4 : Int).toNat 0) (x15.getD (5 : Int).toNat 0)) (bits .and .u32 (inot .u32 (x15.getD (4 : Int).toNat 0)) (x15.getD (6 : Int).toNat 0))))),
      .slot 53 100000 100000 (fun _ _ => (intVP .u32 (IntKind.wrap .u32 ((IntKind.wrap .u32 ((x15.getD (7 : Int).toNat 0) + (bits .xor .u32 (bits .xor .u32 r27 r28) r29))) + (bits .xor .u32 (bits .and .u32 (x15.getD (4 : Int).toNat 0) (x15.getD (5 : Int).toNat 0)) (bits .and .u32 (inot .u32 (x15.getD (4 : Int).toNat 0)) (x15.getD (6 : Int).toNat 0))))))),
      .slot 54 100000 100000 (fun _ _ => (intVP .i64 x14)),
      .slot 55 100000 100000 (fun _ _ => (ppVP [one (intVP .u32 (gConst.getD x14.toNat 0))])),
      .slot 56 100000 100000 (fun _ _ => (intVP .u32 (gConst.getD x14.toNat 0))),
      .slot 57 100000 100000 (fun _ _ => (intVP .u32 (IntKind.wrap .u32 ((IntKind.wrap .u32 ((IntKind.wrap .u32 ((x15.getD (7 : Int).toNat 0) + (bits .xor .u32 (bits .xor .u32 r27 r28) r29))) + (bits .xor .u32 (bits .and .u32 (x15.getD (4 : Int).toNat 0) (x15.getD (5 : Int).toNat 0)) (bits .and .u32 (inot .u32 (x15.getD (4 : Int).toNat 0)) (x15.getD (6 : Int).toNat 0))))) + (gConst.getD x14.toNat 0))))),
      .slot 58 100000 100000 (fun _ _ => (intVP .i64 x14)),
      .slot 59 100000 100000 (fun _ _ => (lpVP p5 (0 + x14.toNat * 1))),
      .slot 60 100000 100000 (fun _ _ => (intVP .u32 (r4.getD x14.toNat 0))),
      .slot 61 100000 100000 (fun _ _ => (intVP .u32 (IntKind.wrap .u32 ((IntKind.wrap .u32 ((IntKind.wrap .u32 ((IntKind.wrap .u32 ((x15.getD (7 : Int).toNat 0) + (bits .xor .u32 (bits .xor .u32 r27 r28) r29))) + (bits .xor .u32 (bits .and .u32 (x15.getD (4 : Int).toNat 0) (x15.getD (5 : Int).toNat 0)) (bits .and .u32 (inot .u32 (x15.getD (4 : Int).toNat 0)) (x15.getD (6 : Int).toNat 0))))) + (gConst.getD x14.toNat 0))) + (r4.getD x14.toNat 0))))),
      .slot 12 100000 100000 (fun _ _ => (intVP .u32 (IntKind.wrap .u32 ((IntKind.wrap .u32 ((IntKind.wrap .u32 ((IntKind.wrap .u32 ((x15.getD (7 : Int).toNat 0) + (bits .xor .u32 (bits .xor .u32 r27 r28) r29))) + (bits .xor .u32 (bits .and .u32 (x15.getD (4 : Int).toNat 0) (x15.getD (5 : Int).toNat 0)) (bits .and .u32 (inot .u32 (x15.getD (4 : Int).toNat 0)) (x15.getD (6 : Int).toNat 0))))) + (gConst.getD x14.toNat 0))) + (r4.getD x14.toNat 0)))))] [0, 1, 2, 3, 4, 5, 6, 7, 8, 9, 10, 11, 12, 13, 14] [⟨[3], [], [13], [], some 48⟩, ⟨[13, 12], [], [14], [0], some 49⟩, ⟨[6], [], [15], [], some 50⟩, ⟨[14, 15], [], [16], [0, 1, 2], some 51⟩, ⟨[7], [], [17], [], some 52⟩, ⟨[16, 17], [], [18], [0, 1, 2, 3, 4], some 53⟩, ⟨[4], [], [19], [], some 54⟩, ⟨[19], [], [20], [6], some 55⟩, ⟨[20], [], [21], [6, 7], some 56⟩, ⟨[18, 21], [], [22], [0, 1, 2, 3, 4, 5, 6, 7, 8], some 57⟩, ⟨[4], [], [23], [], some 58⟩, ⟨[2, 23], [], [24], [10], some 59⟩, ⟨[24, 11], [], [25], [10, 11], some 60⟩, ⟨[22, 25], [], [26], [0, 1, 2, 3, 4, 5, 6, 7, 8, 9, 10, 11, 12], some 61⟩, ⟨[26], [], [27], [0, 1, 2, 3, 4, 5, 6, 7, 8, 9, 10, 11, 12, 13], some 12⟩] [0, 1, 2, 3, 5, 27, 8, 9, 10, 11, 12] mixed hn hG h (by kernel_rfl) ?_ ?_
        · exact ⟨⟨rfl, fun β => (GOk.plain (op_indexAddr_lb Tryd.underlying150 Tryd.sizeOf51 (opt 0 rfl) (opc (ic (by decide))) (by decide)) rfl)⟩, ⟨rfl, fun β => (GOk.plain (op_load_lbI (i := 7) [] [] 1 Tryd.isAgg51 (opt 0 rfl) rfl rfl (by decide)) rfl)⟩, ⟨rfl, fun β => (GOk.plain (op_move (opt 0 rfl)) rfl)⟩, ⟨rfl, fun β => (GOk.plain (op_bin bin_add (opt 0 rfl) (opt 1 rfl)) rfl)⟩, ⟨rfl, fun β => (GOk.plain (op_move (opt 0 rfl)) rfl)⟩, ⟨rfl, fun β => (GOk.plain (op_bin bin_add (opt 0 rfl) (opt 1 rfl)) rfl)⟩, ⟨rfl, fun β => (GOk.plain (op_move (opt 0 rfl)) rfl)⟩, ⟨rfl, fun β => (GOk.plain (op_indexAddr_ppI Tryd.underlying170 Tryd.sizeOf51 (opg (fun Φ h => h.2)) (opt 0 rfl) hv30) rfl)⟩, ⟨rfl, fun β => (GOk.plain (op_load_pp1 [] Tryd.isAgg51 (opt 0 rfl)) rfl)⟩, ⟨rfl, fun β => (GOk.plain (op_bin bin_add (opt 0 rfl) (opt 1 rfl)) rfl)⟩, ⟨rfl, fun β => (GOk.plain (op_move (opt 0 rfl)) rfl)⟩, ⟨rfl, fun β => (GOk.plain (op_indexAddr_lb Tryd.underlying170 Tryd.sizeOf51 (opt 0 rfl) (opt 1 rfl) hv30) rfl)⟩, ⟨rfl, fun β => (GOk.plain (op_load_lbI (i := x14) [] [] 1 Tryd.isAgg51 (opt 0 rfl) rfl rfl hv30) rfl)⟩, ⟨rfl, fun β => (GOk.plain (op_bin bin_add (opt 0 rfl) (opt 1 rfl)) rfl)⟩, ⟨rfl, fun β => (GOk.plain (op_assign (opt 0 rfl)) rfl)⟩, trivial⟩
        clear h
        intro β a w h
        change SatL c [.slot 2 (lpVP p1 0), .slot 4 (lpVP p2 0), .slot 5 (lpVP p5 0), .slot 6 (lpVP p6 0), .slot 8 (intVP .u32 (x15.getD (0 : Int).toNat 0)), .slot 12 (intVP .u32 (IntKind.wrap .u32 ((IntKind.wrap .u32 ((IntKind.wrap .u32 ((IntKind.wrap .u32 ((x15.getD (7 : Int).toNat 0) + (bits .xor .u32 (bits .xor .u32 r27 r28) r29))) + (bits .xor .u32 (bits .and .u32 (x15.getD (4 : Int).toNat 0) (x15.getD (5 : Int).toNat 0)) (bits .and .u32 (inot .u32 (x15.getD (4 : Int).toNat 0)) (x15.getD (6 : Int).toNat 0))))) + (gConst.getD x14.toNat 0))) + (r4.getD x14.toNat 0)))), .slot 23 (intVP .i64 x14), .res (lb p1 150 [intsCk .u32 8 a_0]), .res (lb p2 150 [intsCk .u32 8 (List.replicate 8 0)]), .res (lb p5 170 [intsCk .u32 64 r4]), .res (lb p6 150 [intsCk .u32 8 x15])] a w at h
        clear β
        show Code.wp Tryd.prog _ _ a w
        refine wp_seq ?_
        obtain ⟨r31, hr31, hF⟩ := bind_some hF
        obtain ⟨r32, hr32, hF⟩ := bind_some hF
        obtain ⟨r33, hr33, hF⟩ := bind_some hF
        refine region_do (n := 113) [.slot 62 100000 100000 (fun _ _ => (intVP .u32 (x15.getD (0 : Int).toNat 0))),
      .slot 63 100000 100000 (fun _ _ => (intVP .u32 r31)),
      .slot 64 100000 100000 (fun _ _ => (intVP .u32 (x15.getD (0 : Int).toNat 0))),
      .slot 65 100000 100000 (fun _ _ => (intVP .u32 r32)),
      .slot 66 100000 100000 (fun _ _ => (intVP .u32 (bits .xor .u32 r31 r32))),
      .slot 67 100000 100000 (fun _ _ => (intVP .u32 (x15.getD (0 : Int).toNat 0))),
      .slot 68 100000 100000 (fun _ _ => (intVP .u32 r33)),
      .slot 69 100000 100000 (fun _ _ => (intVP .u32 (bits .xor .u32 (bits .xor .u32 r31 r32) r33))),
      .slot 13 100000 100000 (fun _ _ => (intVP .u32 (bits .xor .u32 (bits .xor .u32 r31 r32) r33)))] [0, 1, 2, 3, 4, 5, 6, 7, 8] [⟨[4], [], [11], [], some 62⟩, ⟨[11], [], [12], [0], some 63⟩, ⟨[4], [], [13], [0, 1], some 64⟩, ⟨[13], [], [14], [0, 1, 2], some 65⟩, ⟨[12, 14], [], [15], [0, 1, 2, 3], some 66⟩, ⟨[4], [], [16], [0, 1, 2, 3, 4], some 67⟩, ⟨[16], [], [17], [0, 1, 2, 3, 4, 5], some 68⟩, ⟨[15, 17], [], [18], [0, 1, 2, 3, 4, 5, 6], some 69⟩, ⟨[18], [], [19], [0, 1, 2, 3, 4, 5, 6, 7], some 13⟩] [0, 1, 2, 3, 4, 5, 19, 6, 7, 8, 9, 10] mixed hn hG h (by kernel_rfl) ?_ ?_
        · exact ⟨⟨rfl, fun β => (GOk.plain (op_move (opt 0 rfl)) rfl)⟩, ⟨rfl, fun β => (GOk.plain (op_call Tryd.call108 (bits_RotateLeft32_ok hr31) ⟨(opt 0 rfl), (opc (ic (by decide))), trivial⟩) rfl)⟩, ⟨rfl, fun β => (GOk.plain (op_move (opt 0 rfl)) rfl)⟩, ⟨rfl, fun β => (GOk.plain (op_call Tryd.call108 (bits_RotateLeft32_ok hr32) ⟨(opt 0 rfl), (opc (ic (by decide))), trivial⟩) rfl)⟩, ⟨rfl, fun β => (GOk.plain (op_bin bin_xor (opt 0 rfl) (opt 1 rfl)) rfl)⟩, ⟨rfl, fun β => (GOk.plain (op_move (opt 0 rfl)) rfl)⟩, ⟨rfl, fun β => (GOk.plain (op_call Tryd.call108 (bits_RotateLeft32_ok hr33) ⟨(opt 0 rfl), (opc (ic (by decide))), trivial⟩) rfl)⟩, ⟨rfl, fun β => (GOk.plain (op_bin bin_xor (opt 0 rfl) (opt 1 rfl)) rfl)⟩, ⟨rfl, fun β => (GOk.plain (op_assign (opt 0 rfl)) rfl)⟩, trivial⟩
        clear h
        intro β a w h
        change SatL c [.slot 2 (lpVP p1 0), .slot 4 (lpVP p2 0), .slot 5 (lpVP p5 0), .slot 6 (lpVP p6 0), .slot 8 (intVP .u32 (x15.getD (0 : Int).toNat 0)), .slot 12 (intVP .u32 (IntKind.wrap .u32 ((IntKind.wrap .u32 ((IntKind.wrap .u32 ((IntKind.wrap .u32 ((x15.getD (7 : Int).toNat 0) + (bits .xor .u32 (bits .xor .u32 r27 r28) r29))) + (bits .xor .u32 (bits .and .u32 (x15.getD (4 : Int).toNat 0) (x15.getD (5 : Int).toNat 0)) (bits .and .u32 (inot .u32 (x15.getD (4 : Int).toNat 0)) (x15.getD (6 : Int).toNat 0))))) + (gConst.getD x14.toNat 0))) + (r4.getD x14.toNat 0)))), .slot 13 (intVP .u32 (bits .xor .u32 (bits .xor .u32 r31 r32) r33)), .slot 23 (intVP .i64 x14), .res (lb p1 150 [intsCk .u32 8 a_0]), .res (lb p2 150 [intsCk .u32 8 (List.replicate 8 0)]), .res (lb p5 170 [intsCk .u32 64 r4]), .res (lb p6 150 [intsCk .u32 8 x15])] a w at h
        clear β
        show Code.wp Tryd.prog _ _ a w
        refine wp_seq ?_
        refine region_do (n := 113) [.slot 70 100000 100000 (fun _ _ => (intVP .u32 (x15.getD (0 : Int).toNat 0))),
      .slot 71 100000 100000 (fun _ _ => (lpVP p6 (0 + (1 : Int).toNat * 1))),
      .slot 72 100000 100000 (fun _ _ => (intVP .u32 (x15.getD (1 : Int).toNat 0))),
      .slot 73 100000 100000 (fun _ _ => (intVP .u32 (bits .and .u32 (x15.getD (0 : Int).toNat 0) (x15.getD (1 : Int).toNat 0)))),
      .slot 74 100000 100000 (fun _ _ => (intVP .u32 (x15.getD (0 : Int).toNat 0))),
      .slot 75 100000 100000 (fun _ _ => (lpVP p6 (0 + (2 : Int).toNat * 1))),
      .slot 76 100000 100000 (fun _ _ => (intVP .u32 (x15.getD (2 : Int).toNat 0))),
      .slot 77 100000 100000 (fun _ _ => (intVP .u32 (bits .and .u32 (x15.getD (0 : Int).toNat 0) (x15.getD (2 : Int).toNat 0)))),
      .slot 78 100000 100000 (fun _ _ => (intVP .u32 (bits .xor .u32 (bits .and .u32 (x15.getD (0 : Int).toNat 0) (x15.getD (1 : Int).toNat 0)) (bits .and .u32 (x15.getD (0 : Int).toNat 0) (x15.getD (2 : Int).toNat 0))))),
      .slot 79 100000 100000 (fun _ _ => (lpVP p6 (0 + (1 : Int).toNat * 1))),
      .slot 80 100000 100000 (fun _ _ => (intVP .u32 (x15.getD (1 : Int).toNat 0))),
      .slot 81 100000 100000 (fun _ _ => (lpVP p6 (0 + (2 : Int).toNat * 1))),
      .slot 82 100000 100000 (fun _ _ => (intVP .u32 (x15.getD (2 : Int).toNat 0))),
      .slot 83 100000 100000 (fun _ _ => (intVP .u32 (bits .and .u32 (x15.getD (1 : Int).toNat 0) (x15.getD (2 : Int).toNat 0)))),
      .slot 84 100000 100000 (fun _ _ => (intVP .u32 (bits .xor .u32 (bits .xor .u32 (bits .and .u32 (x15.getD (0 : Int).toNat 0) (x15.getD (1 : Int).toNat 0)) (bits .and .u32 (x15.getD (0 : Int).toNat 0) (x15.getD (2 : Int).toNat 0))) (bits .and .u32 (x15.getD (1 : Int).toNat 0) (x15.getD (2 : Int).toNat 0))))),
      .slot 14 100000 100000 (fun _ _ => (intVP .u32 (bits .xor .u32 (bits .xor .u32 (bits .and .u32 (x15.getD (0 : Int).toNat 0) (x15.getD (1 : Int).toNat 0)) (bits .and .u32 (x15.getD (0 : Int).toNat 0) (x15.getD (2 : Int).toNat 0))) (bits .and .u32 (x15.getD (1 : Int).toNat 0) (x15.getD (2 : Int).toNat 0)))))] [0, 1, 2, 3, 4, 5, 6, 7, 8, 9, 10, 11, 12, 13, 14, 15] [⟨[4], [], [12], [], some 70⟩, ⟨[3], [], [13], [0], some 71⟩, ⟨[13, 11], [], [14], [0, 1], some 72⟩, ⟨[12, 14], [], [15], [0, 1, 2], some 73⟩, ⟨[4], [], [16], [0, 1, 2, 3], some 74⟩, ⟨[3], [], [17], [0, 1, 2, 3, 4], some 75⟩, ⟨[17, 11], [], [18], [0, 1, 2, 3, 4, 5], some 76⟩, ⟨[16, 18], [], [19], [0, 1, 2, 3, 4, 5, 6], some 77⟩, ⟨[15, 19], [], [20], [0, 1, 2, 3, 4, 5, 6, 7], some 78⟩, ⟨[3], [], [21], [0, 1, 2, 3, 4, 5, 6, 7, 8], some 79⟩, ⟨[21, 11], [], [22], [0, 1, 2, 3, 4, 5, 6, 7, 8, 9], some 80⟩, ⟨[3], [], [23], [0, 1, 2, 3, 4, 5, 6, 7, 8, 9, 10], some 81⟩, ⟨[23, 11], [], [24], [0, 1, 2, 3, 4, 5, 6, 7, 8, 9, 10, 11], some 82⟩, ⟨[22, 24], [], [25], [0, 1, 2, 3, 4, 5, 6, 7, 8, 9, 10, 11, 12], some 83⟩, ⟨[20, 25], [], [26], [0, 1, 2, 3, 4, 5, 6, 7, 8, 9, 10, 11, 12, 13], some 84⟩, ⟨[26], [], [27], [0, 1, 2, 3, 4, 5, 6, 7, 8, 9, 10, 11, 12, 13, 14], some 14⟩] [0, 1, 2, 3, 5, 6, 27, 7, 8, 9, 10, 11] mixed hn hG h (by kernel_rfl) ?_ ?_
        · exact ⟨⟨rfl, fun β => (GOk.plain (op_move (opt 0 rfl)) rfl)⟩, ⟨rfl, fun β => (GOk.plain (op_indexAddr_lb Tryd.underlying150 Tryd.sizeOf51 (opt 0 rfl) (opc (ic (by decide))) (by decide)) rfl)⟩, ⟨rfl, fun β => (GOk.plain (op_load_lbI (i := 1) [] [] 1 Tryd.isAgg51 (opt 0 rfl) rfl rfl (by decide)) rfl)⟩, ⟨rfl, fun β => (GOk.plain (op_bin bin_and (opt 0 rfl) (opt 1 rfl)) rfl)⟩, ⟨rfl, fun β => (GOk.plain (op_move (opt 0 rfl)) rfl)⟩, ⟨rfl, fun β => (GOk.plain (op_indexAddr_lb Tryd.underlying150 Tryd.sizeOf51 (opt 0 rfl) (opc (ic (by decide))) (by decide)) rfl)⟩, ⟨rfl, fun β => (GOk.plain (op_load_lbI (i := 2) [] [] 1 Tryd.isAgg51 (opt 0 rfl) rfl rfl (by decide)) rfl)⟩, ⟨rfl, fun β => (GOk.plain (op_bin bin_and (opt 0 rfl) (opt 1 rfl)) rfl)⟩, ⟨rfl, fun β => (GOk.plain (op_bin bin_xor (opt 0 rfl) (opt 1 rfl)) rfl)⟩, ⟨rfl, fun β => (GOk.plain (op_indexAddr_lb Tryd.underlying150 Tryd.sizeOf51 (opt 0 rfl) (opc (ic (by decide))) (by decide)) rfl)⟩, ⟨rfl, fun β => (GOk.plain (op_load_lbI (i := 1) [] [] 1 Tryd.isAgg51 (opt 0 rfl) rfl rfl (by decide)) rfl)⟩, ⟨rfl, fun β => (GOk.plain (op_indexAddr_lb Tryd.underlying150 Tryd.sizeOf51 (opt 0 rfl) (opc (ic (by decide))) (by decide)) rfl)⟩, ⟨rfl, fun β => (GOk.plain (op_load_lbI (i := 2) [] [] 1 Tryd.isAgg51 (opt 0 rfl) rfl rfl (by decide)) rfl)⟩, ⟨rfl, fun β => (GOk.plain (op_bin bin_and (opt 0 rfl) (opt 1 rfl)) rfl)⟩, ⟨rfl, fun β => (GOk.plain (op_bin bin_xor (opt 0 rfl) (opt 1 rfl)) rfl)⟩, ⟨rfl, fun β => (GOk.plain (op_assign (opt 0 rfl)) rfl)⟩, trivial⟩
        clear h
        intro β a w h
        change SatL c [.slot 2 (lpVP p1 0), .slot 4 (lpVP p2 0), .slot 5 (lpVP p5 0), .slot 6 (lpVP p6 0), .slot 12 (intVP .u32 (IntKind.wrap .u32 ((IntKind.wrap .u32 ((IntKind.wrap .u32 ((IntKind.wrap .u32 ((x15.getD (7 : Int).toNat 0) + (bits .xor .u32 (bits .xor .u32 r27 r28) r29))) + (bits .xor .u32 (bits .and .u32 (x15.getD (4 : Int).toNat 0) (x15.getD (5 : Int).toNat 0)) (bits .and .u32 (inot .u32 (x15.getD (4 : Int).toNat 0)) (x15.getD (6 : Int).toNat 0))))) + (gConst.getD x14.toNat 0))) + (r4.getD x14.toNat 0)))), .slot 13 (intVP .u32 (bits .xor .u32 (bits .xor .u32 r31 r32) r33)), .slot 14 (intVP .u32 (bits .xor .u32 (bits .xor .u32 (bits .and .u32 (x15.getD (0 : Int).toNat 0) (x15.getD (1 : Int).toNat 0)) (bits .and .u32 (x15.getD (0 : Int).toNat 0) (x15.getD (2 : Int).toNat 0))) (bits .and .u32 (x15.getD (1 : Int).toNat 0) (x15.getD (2 : Int).toNat 0)))), .slot 23 (intVP .i64 x14), .res (lb p1 150 [intsCk .u32 8 a_0]), .res (lb p2 150 [intsCk .u32 8 (List.replicate 8 0)]), .res (lb p5 170 [intsCk .u32 64 r4]), .res (lb p6 150 [intsCk .u32 8 x15])] a w at h
        clear β
        show Code.wp Tryd.prog _ _ a w
        refine wp_seq ?_
        refine region_do (n := 113) [.slot 85 100000 100000 (fun _ _ => (lslVP p6 (0 + (1 : Int).toNat * 1) ((8 : Int).toNat - (1 : Int).toNat) (8 - (1 : Int).toNat))),
      .slot 86 100000 100000 (fun _ _ => (lslVP p6 (0 + (0 : Int).toNat * 1) ((7 : Int).toNat - (0 : Int).toNat) (8 - (0 : Int).toNat))),
      .slot 87 100000 100000 (fun _ _ => (intVP .i64 (((min ((7 : Int).toNat - (0 : Int).toNat) ((8 : Int).toNat - (1 : Int).toNat)) : Nat) : Int))),
      .res 100000 100000 (fun _ _ => (lb p6 150 [intsCk .u32 8 (x15.take (1 : Int).toNat ++ (x15.drop (0 : Int).toNat).take (min ((7 : Int).toNat - (0 : Int).toNat) ((8 : Int).toNat - (1 : Int).toNat)) ++ x15.drop ((1 : Int).toNat + (min ((7 : Int).toNat - (0 : Int).toNat) ((8 : Int).toNat - (1 : Int).toNat))))]))] [0, 1, 2, 2] [⟨[3], [], [12], [], some 85⟩, ⟨[3], [], [13], [], some 86⟩, ⟨[12, 13], [11], [14, 15], [0, 1], some 87⟩] [0, 1, 2, 3, 4, 5, 6, 7, 8, 9, 10, 15] mixed hn hG h (by kernel_rfl) ?_ ?_
        · exact ⟨⟨rfl, fun β => (GOk.plain (op_slice_lb (a := 1) (b := 8) Tryd.underlying150 Tryd.sizeOf51 (opt 0 rfl) ⟨_, (opc (ic (by decide)))⟩ rfl (by decide)) rfl)⟩, ⟨rfl, fun β => (GOk.plain (op_slice_lb (a := 0) (b := 7) Tryd.underlying150 Tryd.sizeOf51 (opt 0 rfl) rfl ⟨_, (opc (ic (by decide)))⟩ (by decide)) rfl)⟩, ⟨rfl, fun β => (GOk.plain (op_copy_lb (i := (1 : Int).toNat) (j := (0 : Int).toNat) [] [] Tryd.underlying175 rfl (opt 0 rfl) (opt 1 rfl) (by rfl) (by rfl) (by decide) (by decide)) rfl)⟩, trivial⟩
        clear h
        intro β a w h
        change SatL c [.slot 2 (lpVP p1 0), .slot 4 (lpVP p2 0), .slot 5 (lpVP p5 0), .slot 6 (lpVP p6 0), .slot 12 (intVP .u32 (IntKind.wrap .u32 ((IntKind.wrap .u32 ((IntKind.wrap .u32 ((IntKind.wrap .u32 ((x15.getD (7 : Int).toNat 0) + (bits .xor .u32 (bits .xor .u32 r27 r28) r29))) + (bits .xor .u32 (bits .and .u32 (x15.getD (4 : Int).toNat 0) (x15.getD (5 : Int).toNat 0)) (bits .and .u32 (inot .u32 (x15.getD (4 : Int).toNat 0)) (x15.getD (6 : Int).toNat 0))))) + (gConst.getD x14.toNat 0))) + (r4.getD x14.toNat 0)))), .slot 13 (intVP .u32 (bits .xor .u32 (bits .xor .u32 r31 r32) r33)), .slot 14 (intVP .u32 (bits .xor .u32 (bits .xor .u32 (bits .and .u32 (x15.getD (0 : Int).toNat 0) (x15.getD (1 : Int).toNat 0)) (bits .and .u32 (x15.getD (0 : Int).toNat 0) (x15.getD (2 : Int).toNat 0))) (bits .and .u32 (x15.getD (1 : Int).toNat 0) (x15.getD (2 : Int).toNat 0)))), .slot 23 (intVP .i64 x14), .res (lb p1 150 [intsCk .u32 8 a_0]), .res (lb p2 150 [intsCk .u32 8 (List.replicate 8 0)]), .res (lb p5 170 [intsCk .u32 64 r4]), .res (lb p6 150 [intsCk .u32 8 (x15.take (1 : Int).toNat ++ (x15.drop (0 : Int).toNat).take (min ((7 : Int).toNat - (0 : Int).toNat) ((8 : Int).toNat - (1 : Int).toNat)) ++ x15.drop ((1 : Int).toNat + (min ((7 : Int).toNat - (0 : Int).toNat) ((8 : Int).toNat - (1 : Int).toNat))))])] a w at h
        clear β
        show Code.wp Tryd.prog _ _ a w
        refine wp_seq ?_
        refine region_do (n := 113) [.slot 88 100000 100000 (fun _ _ => (lpVP p6 (0 + (4 : Int).toNat * 1))),
      .slot 89 100000 100000 (fun _ _ => (intVP .u32 ((x15.take (1 : Int).toNat ++ (x15.drop (0 : Int).toNat).take (min ((7 : Int).toNat - (0 : Int).toNat) ((8 : Int).toNat - (1 : Int).toNat)) ++ x15.drop ((1 : Int).toNat + (min ((7 : Int).toNat - (0 : Int).toNat) ((8 : Int).toNat - (1 : Int).toNat)))).getD (4 : Int).toNat 0))),
      .slot 90 100000 100000 (fun _ _ => (intVP .u32 (IntKind.wrap .u32 ((IntKind.wrap .u32 ((IntKind.wrap .u32 ((IntKind.wrap .u32 ((x15.getD (7 : Int).toNat 0) + (bits .xor .u32 (bits .xor .u32 r27 r28) r29))) + (bits .xor .u32 (bits .and .u32 (x15.getD (4 : Int).toNat 0) (x15.getD (5 : Int).toNat 0)) (bits .and .u32 (inot .u32 (x15.getD (4 : Int).toNat 0)) (x15.getD (6 : Int).toNat 0))))) + (gConst.getD x14.toNat 0))) + (r4.getD x14.toNat 0))))),
      .slot 91 100000 100000 (fun _ _ => (intVP .u32 (IntKind.wrap .u32 (((x15.take (1 : Int).toNat ++ (x15.drop (0 : Int).toNat).take (min ((7 : Int).toNat - (0 : Int).toNat) ((8 : Int).toNat - (1 : Int).toNat)) ++ x15.drop ((1 : Int).toNat + (min ((7 : Int).toNat - (0 : Int).toNat) ((8 : Int).toNat - (1 : Int).toNat)))).getD (4 : Int).toNat 0) + (IntKind.wrap .u32 ((IntKind.wrap .u32 ((IntKind.wrap .u32 ((IntKind.wrap .u32 ((x15.getD (7 : Int).toNat 0) + (bits .xor .u32 (bits .xor .u32 r27 r28) r29))) + (bits .xor .u32 (bits .and .u32 (x15.getD (4 : Int).toNat 0) (x15.getD (5 : Int).toNat 0)) (bits .and .u32 (inot .u32 (x15.getD (4 : Int).toNat 0)) (x15.getD (6 : Int).toNat 0))))) + (gConst.getD x14.toNat 0))) + (r4.getD x14.toNat 0))))))),
      .slot 92 100000 100000 (fun _ _ => (lpVP p6 (0 + (4 : Int).toNat * 1))),
      .res 100000 100000 (fun _ _ => (lb p6 150 [intsCk .u32 8 ((x15.take (1 : Int).toNat ++ (x15.drop (0 : Int).toNat).take (min ((7 : Int).toNat - (0 : Int).toNat) ((8 : Int).toNat - (1 : Int).toNat)) ++ x15.drop ((1 : Int).toNat + (min ((7 : Int).toNat - (0 : Int).toNat) ((8 : Int).toNat - (1 : Int).toNat)))).set (4 : Int).toNat (IntKind.wrap .u32 (((x15.take (1 : Int).toNat ++ (x15.drop (0 : Int).toNat).take (min ((7 : Int).toNat - (0 : Int).toNat) ((8 : Int).toNat - (1 : Int).toNat)) ++ x15.drop ((1 : Int).toNat + (min ((7 : Int).toNat - (0 : Int).toNat) ((8 : Int).toNat - (1 : Int).toNat)))).getD (4 : Int).toNat 0) + (IntKind.wrap .u32 ((IntKind.wrap .u32 ((IntKind.wrap .u32 ((IntKind.wrap .u32 ((x15.getD (7 : Int).toNat 0) + (bits .xor .u32 (bits .xor .u32 r27 r28) r29))) + (bits .xor .u32 (bits .and .u32 (x15.getD (4 : Int).toNat 0) (x15.getD (5 : Int).toNat 0)) (bits .and .u32 (inot .u32 (x15.getD (4 : Int).toNat 0)) (x15.getD (6 : Int).toNat 0))))) + (gConst.getD x14.toNat 0))) + (r4.getD x14.toNat 0))))))]))] [0, 1, 2, 3, 4, 5] [⟨[3], [], [12], [], some 88⟩, ⟨[12, 11], [], [13], [0], some 89⟩, ⟨[4], [], [14], [0, 1], some 90⟩, ⟨[13, 14], [], [15], [0, 1, 2], some 91⟩, ⟨[3], [], [16], [0, 1, 2, 3], some 92⟩, ⟨[16, 15], [11], [17], [0, 1, 2, 3, 4], none⟩] [0, 1, 2, 3, 4, 5, 6, 7, 8, 9, 10, 17] mixed hn hG h (by kernel_rfl) ?_ ?_
        · exact ⟨⟨rfl, fun β => (GOk.plain (op_indexAddr_lb Tryd.underlying150 Tryd.sizeOf51 (opt 0 rfl) (opc (ic (by decide))) (by decide)) rfl)⟩, ⟨rfl, fun β => (GOk.plain (op_load_lbI (i := 4) [] [] 1 Tryd.isAgg51 (opt 0 rfl) rfl rfl (by decide)) rfl)⟩, ⟨rfl, fun β => (GOk.plain (op_move (opt 0 rfl)) rfl)⟩, ⟨rfl, fun β => (GOk.plain (op_bin bin_add (opt 0 rfl) (opt 1 rfl)) rfl)⟩, ⟨rfl, fun β => (GOk.plain (op_indexAddr_lb Tryd.underlying150 Tryd.sizeOf51 (opt 0 rfl) (opc (ic (by decide))) (by decide)) rfl)⟩, ⟨rfl, fun β => (GOk.plain (op_store_lbI (i := 4) [] [] Tryd.sizeOf51 (opt 0 rfl) (opt 1 rfl) rfl (by decide)) rfl)⟩, trivial⟩
        clear h
        intro β a w h
        change SatL c [.slot 2 (lpVP p1 0), .slot 4 (lpVP p2 0), .slot 5 (lpVP p5 0), .slot 6 (lpVP p6 0), .slot 12 (intVP .u32 (IntKind.wrap .u32 ((IntKind.wrap .u32 ((IntKind.wrap .u32 ((IntKind.wrap .u32 ((x15.getD (7 : Int).toNat 0) + (bits .xor .u32 (bits .xor .u32 r27 r28) r29))) + (bits .xor .u32 (bits .and .u32 (x15.getD (4 : Int).toNat 0) (x15.getD (5 : Int).toNat 0)) (bits .and .u32 (inot .u32 (x15.getD (4 : Int).toNat 0)) (x15.getD (6 : Int).toNat 0))))) + (gConst.getD x14.toNat 0))) + (r4.getD x14.toNat 0)))), .slot 13 (intVP .u32 (bits .xor .u32 (bits .xor .u32 r31 r32) r33)), .slot 14 (intVP .u32 (bits .xor .u32 (bits .xor .u32 (bits .and .u32 (x15.getD (0 : Int).toNat 0) (x15.getD (1 : Int).toNat 0)) (bits .and .u32 (x15.getD (0 : Int).toNat 0) (x15.getD (2 : Int).toNat 0))) (bits .and .u32 (x15.getD (1 : Int).toNat 0) (x15.getD (2 : Int).toNat 0)))), .slot 23 (intVP .i64 x14), .res (lb p1 150 [intsCk .u32 8 a_0]), .res (lb p2 150 [intsCk .u32 8 (List.replicate 8 0)]), .res (lb p5 170 [intsCk .u32 64 r4]), .res (lb p6 150 [intsCk .u32 8 ((x15.take (1 : Int).toNat ++ (x15.drop (0 : Int).toNat).take (min ((7 : Int).toNat - (0 : Int).toNat) ((8 : Int).toNat - (1 : Int).toNat)) ++ x15.drop ((1 : Int).toNat + (min ((7 : Int).toNat - (0 : Int).toNat) ((8 : Int).toNat - (1 : Int).toNat)))).set (4 : Int).toNat (IntKind.wrap .u32 (((x15.take (1 : Int).toNat ++ (x15.drop (0 : Int).toNat).take (min ((7 : Int).toNat - (0 : Int).toNat) ((8 : Int).toNat - (1 : Int).toNat)) ++ x15.drop ((1 : Int).toNat + (min ((7 : Int).toNat - (0 : Int).toNat) ((8 : Int).toNat - (1 : Int).toNat)))).getD (4 : Int).toNat 0) + (IntKind.wrap .u32 ((IntKind.wrap .u32 ((IntKind.wrap .u32 ((IntKind.wrap .u32 ((x15.getD (7 : Int).toNat 0) + (bits .xor .u32 (bits .xor .u32 r27 r28) r29))) + (bits .xor .u32 (bits .and .u32 (x15.getD (4 : Int).toNat 0) (x15.getD (5 : Int).toNat 0)) (bits .and .u32 (inot .u32 (x15.getD (4 : Int).toNat 0)) (x15.getD (6 : Int).toNat 0))))) + (gConst.getD x14.toNat 0))) + (r4.getD x14.toNat 0))))))])] a w at h
        clear β
        show Code.wp Tryd.prog _ _ a w
        refine region_do (n := 113) [.slot 93 100000 100000 (fun _ _ => (intVP .u32 (IntKind.wrap .u32 ((IntKind.wrap .u32 ((IntKind.wrap .u32 ((IntKind.wrap .u32 ((x15.getD (7 : Int).toNat 0) + (bits .xor .u32 (bits .xor .u32 r27 r28) r29))) + (bits .xor .u32 (bits .and .u32 (x15.getD (4 : Int).toNat 0) (x15.getD (5 : Int).toNat 0)) (bits .and .u32 (inot .u32 (x15.getD (4 : Int).toNat 0)) (x15.getD (6 : Int).toNat 0))))) + (gConst.getD x14.toNat 0))) + (r4.getD x14.toNat 0))))),
      .slot 94 100000 100000 (fun _ _ => (intVP .u32 (bits .xor .u32 (bits .xor .u32 r31 r32) r33))),
      .slot 95 100000 100000 (fun _ _ => (intVP .u32 (IntKind.wrap .u32 ((IntKind.wrap .u32 ((IntKind.wrap .u32 ((IntKind.wrap .u32 ((IntKind.wrap .u32 ((x15.getD (7 : Int).toNat 0) + (bits .xor .u32 (bits .xor .u32 r27 r28) r29))) + (bits .xor .u32 (bits .and .u32 (x15.getD (4 : Int).toNat 0) (x15.getD (5 : Int).toNat 0)) (bits .and .u32 (inot .u32 (x15.getD (4 : Int).toNat 0)) (x15.getD (6 : Int).toNat 0))))) + (gConst.getD x14.toNat 0))) + (r4.getD x14.toNat 0))) + (bits .xor .u32 (bits .xor .u32 r31 r32) r33))))),
      .slot 96 100000 100000 (fun _ _ => (intVP .u32 (bits .xor .u32 (bits .xor .u32 (bits .and .u32 (x15.getD (0 : Int).toNat 0) (x15.getD (1 : Int).toNat 0)) (bits .and .u32 (x15.getD (0 : Int).toNat 0) (x15.getD (2 : Int).toNat 0))) (bits .and .u32 (x15.getD (1 : Int).toNat 0) (x15.getD (2 : Int).toNat 0))))),
      .slot 97 100000 100000 (fun _ _ => (intVP .u32 (IntKind.wrap .u32 ((IntKind.wrap .u32 ((IntKind.wrap .u32 ((IntKind.wrap .u32 ((IntKind.wrap .u32 ((IntKind.wrap .u32 ((x15.getD (7 : Int).toNat 0) + (bits .xor .u32 (bits .xor .u32 r27 r28) r29))) + (bits .xor .u32 (bits .and .u32 (x15.getD (4 : Int).toNat 0) (x15.getD (5 : Int).toNat 0)) (bits .and .u32 (inot .u32 (x15.getD (4 : Int).toNat 0)) (x15.getD (6 : Int).toNat 0))))) + (gConst.getD x14.toNat 0))) + (r4.getD x14.toNat 0))) + (bits .xor .u32 (bits .xor .u32 r31 r32) r33))) + (bits .xor .u32 (bits .xor .u32 (bits .and .u32 (x15.getD (0 : Int).toNat 0) (x15.getD (1 : Int).toNat 0)) (bits .and .u32 (x15.getD (0 : Int).toNat 0) (x15.getD (2 : Int).toNat 0))) (bits .and .u32 (x15.getD (1 : Int).toNat 0) (x15.getD (2 : Int).toNat 0))))))),
      .slot 98 100000 100000 (fun _ _ => (lpVP p6 (0 + (0 : Int).toNat * 1))),
      .res 100000 100000 (fun _ _ => (lb p6 150 [intsCk .u32 8 (((x15.take (1 : Int).toNat ++ (x15.drop (0 : Int).toNat).take (min ((7 : Int).toNat - (0 : Int).toNat) ((8 : Int).toNat - (1 : Int).toNat)) ++ x15.drop ((1 : Int).toNat + (min ((7 : Int).toNat - (0 : Int).toNat) ((8 : Int).toNat - (1 : Int).toNat)))).set (4 : Int).toNat (IntKind.wrap .u32 (((x15.take (1 : Int).toNat ++ (x15.drop (0 : Int).toNat).take (min ((7 : Int).toNat - (0 : Int).toNat) ((8 : Int).toNat - (1 : Int).toNat)) ++ x15.drop ((1 : Int).toNat + (min ((7 : Int).toNat - (0 : Int).toNat) ((8 : Int).toNat - (1 : Int).toNat)))).getD (4 : Int).toNat 0) + (IntKind.wrap .u32 ((IntKind.wrap .u32 ((IntKind.wrap .u32 ((IntKind.wrap .u32 ((x15.getD (7 : Int).toNat 0) + (bits .xor .u32 (bits .xor .u32 r27 r28) r29))) + (bits .xor .u32 (bits .and .u32 (x15.getD (4 : Int).toNat 0) (x15.getD (5 : Int).toNat 0)) (bits .and .u32 (inot .u32 (x15.getD (4 : Int).toNat 0)) (x15.getD (6 : Int).toNat 0))))) + (gConst.getD x14.toNat 0))) + (r4.getD x14.toNat 0)))))).set (0 : Int).toNat (IntKind.wrap .u32 ((IntKind.wrap .u32 ((IntKind.wrap .u32 ((IntKind.wrap .u32 ((IntKind.wrap .u32 ((IntKind.wrap .u32 ((x15.getD (7 : Int).toNat 0) + (bits .xor .u32 (bits .xor .u32 r27 r28) r29))) + (bits .xor .u32 (bits .and .u32 (x15.getD (4 : Int).toNat 0) (x15.getD (5 : Int).toNat 0)) (bits .and .u32 (inot .u32 (x15.getD (4 : Int).toNat 0)) (x15.getD (6 : Int).toNat 0))))) + (gConst.getD x14.toNat 0))) + (r4.getD x14.toNat 0))) + (bits .xor .u32 (bits .xor .u32 r31 r32) r33))) + (bits .xor .u32 (bits .xor .u32 (bits .and .u32 (x15.getD (0 : Int).toNat 0) (x15.getD (1 : Int).toNat 0)) (bits .and .u32 (x15.getD (0 : Int).toNat 0) (x15.getD (2 : Int).toNat 0))) (bits .and .u32 (x15.getD (1 : Int).toNat 0) (x15.getD (2 : Int).toNat 0))))))]))] [0, 1, 2, 3, 4, 5, 6] [⟨[4], [], [12], [], some 93⟩, ⟨[5], [], [13], [0], some 94⟩, ⟨[12, 13], [], [14], [0, 1], some 95⟩, ⟨[6], [], [15], [0, 1, 2], some 96⟩, ⟨[14, 15], [], [16], [0, 1, 2, 3], some 97⟩, ⟨[3], [], [17], [0, 1, 2, 3, 4], some 98⟩, ⟨[17, 16], [11], [18], [0, 1, 2, 3, 4, 5], none⟩] [0, 1, 2, 3, 7, 8, 9, 10, 18] mixed hn hG h (by kernel_rfl) ?_ ?_
        · exact ⟨⟨rfl, fun β => (GOk.plain (op_move (opt 0 rfl)) rfl)⟩, ⟨rfl, fun β => (GOk.plain (op_move (opt 0 rfl)) rfl)⟩, ⟨rfl, fun β => (GOk.plain (op_bin bin_add (opt 0 rfl) (opt 1 rfl)) rfl)⟩, ⟨rfl, fun β => (GOk.plain (op_move (opt 0 rfl)) rfl)⟩, ⟨rfl, fun β => (GOk.plain (op_bin bin_add (opt 0 rfl) (opt 1 rfl)) rfl)⟩, ⟨rfl, fun β => (GOk.plain (op_indexAddr_lb Tryd.underlying150 Tryd.sizeOf51 (opt 0 rfl) (opc (ic (by decide))) (by decide)) rfl)⟩, ⟨rfl, fun β => (GOk.plain (op_store_lbI (i := 0) [] [] Tryd.sizeOf51 (opt 0 rfl) (opt 1 rfl) rfl (by decide)) rfl)⟩, trivial⟩
        clear h
        intro β a w h
        change SatL c [.slot 2 (lpVP p1 0), .slot 4 (lpVP p2 0), .slot 5 (lpVP p5 0), .slot 6 (lpVP p6 0), .slot 23 (intVP .i64 x14), .res (lb p1 150 [intsCk .u32 8 a_0]), .res (lb p2 150 [intsCk .u32 8 (List.replicate 8 0)]), .res (lb p5 170 [intsCk .u32 64 r4]), .res (lb p6 150 [intsCk .u32 8 (((x15.take (1 : Int).toNat ++ (x15.drop (0 : Int).toNat).take (min ((7 : Int).toNat - (0 : Int).toNat) ((8 : Int).toNat - (1 : Int).toNat)) ++ x15.drop ((1 : Int).toNat + (min ((7 : Int).toNat - (0 : Int).toNat) ((8 : Int).toNat - (1 : Int).toNat)))).set (4 : Int).toNat (IntKind.wrap .u32 (((x15.take (1 : Int).toNat ++ (x15.drop (0 : Int).toNat).take (min ((7 : Int).toNat - (0 : Int).toNat) ((8 : Int).toNat - (1 : Int).toNat)) ++ x15.drop ((1 : Int).toNat + (min ((7 : Int).toNat - (0 : Int).toNat) ((8 : Int).toNat - (1 : Int).toNat)))).getD (4 : Int).toNat 0) + (IntKind.wrap .u32 ((IntKind.wrap .u32 ((IntKind.wrap .u32 ((IntKind.wrap .u32 ((x15.getD (7 : Int).toNat 0) + (bits .xor .u32 (bits .xor .u32 r27 r28) r29))) + (bits .xor .u32 (bits .and .u32 (x15.getD (4 : Int).toNat 0) (x15.getD (5 : Int).toNat 0)) (bits .and .u32 (inot .u32 (x15.getD (4 : Int).toNat 0)) (x15.getD (6 : Int).toNat 0))))) + (gConst.getD x14.toNat 0))) + (r4.getD x14.toNat 0)))))).set (0 : Int).toNat (IntKind.wrap .u32 ((IntKind.wrap .u32 ((IntKind.wrap .u32 ((IntKind.wrap .u32 ((IntKind.wrap .u32 ((IntKind.wrap .u32 ((x15.getD (7 : Int).toNat 0) + (bits .xor .u32 (bits .xor .u32 r27 r28) r29))) + (bits .xor .u32 (bits .and .u32 (x15.getD (4 : Int).toNat 0) (x15.getD (5 : Int).toNat 0)) (bits .and .u32 (inot .u32 (x15.getD (4 : Int).toNat 0)) (x15.getD (6 : Int).toNat 0))))) + (gConst.getD x14.toNat 0))) + (r4.getD x14.toNat 0))) + (bits .xor .u32 (bits .xor .u32 r31 r32) r33))) + (bits .xor .u32 (bits .xor .u32 (bits .and .u32 (x15.getD (0 : Int).toNat 0) (x15.getD (1 : Int).toNat 0)) (bits .and .u32 (x15.getD (0 : Int).toNat 0) (x15.getD (2 : Int).toNat 0))) (bits .and .u32 (x15.getD (1 : Int).toNat 0) (x15.getD (2 : Int).toNat 0))))))])] a w at h
        clear β
        show Code.wp Tryd.prog _ _ a w
        refine region_do (n := 113) [.slot 99 100000 100000 (fun _ _ => (intVP .i64 (IntKind.wrap .i64 (x14 + 1)))),
      .slot 23 100000 100000 (fun _ _ => (intVP .i64 (IntKind.wrap .i64 (x14 + 1))))] [0, 1] [⟨[4], [], [9], [], some 99⟩, ⟨[9], [4], [10], [0], some 23⟩] [0, 1, 2, 3, 10, 5, 6, 7, 8] mixed hn hG h (by kernel_rfl) ?_ ?_
        · exact ⟨⟨rfl, fun β => (GOk.plain (op_bin bin_add (opt 0 rfl) (opc (ic (by decide)))) rfl)⟩, ⟨rfl, fun β => (GOk.drop _ (GOk.plain (op_move (opt 0 rfl)) rfl))⟩, trivial⟩
        clear h
        intro β a w h
        change SatL c [.slot 2 (lpVP p1 0), .slot 4 (lpVP p2 0), .slot 5 (lpVP p5 0), .slot 6 (lpVP p6 0), .slot 23 (intVP .i64 (IntKind.wrap .i64 (x14 + 1))), .res (lb p1 150 [intsCk .u32 8 a_0]), .res (lb p2 150 [intsCk .u32 8 (List.replicate 8 0)]), .res (lb p5 170 [intsCk .u32 64 r4]), .res (lb p6 150 [intsCk .u32 8 (((x15.take (1 : Int).toNat ++ (x15.drop (0 : Int).toNat).take (min ((7 : Int).toNat - (0 : Int).toNat) ((8 : Int).toNat - (1 : Int).toNat)) ++ x15.drop ((1 : Int).toNat + (min ((7 : Int).toNat - (0 : Int).toNat) ((8 : Int).toNat - (1 : Int).toNat)))).set (4 : Int).toNat (IntKind.wrap .u32 (((x15.take (1 : Int).toNat ++ (x15.drop (0 : Int).toNat).take (min ((7 : Int).toNat - (0 : Int).toNat) ((8 : Int).toNat - (1 : Int).toNat)) ++ x15.drop ((1 : Int).toNat + (min ((7 : Int).toNat - (0 : Int).toNat) ((8 : Int).toNat - (1 : Int).toNat)))).getD (4 : Int).toNat 0) + (IntKind.wrap .u32 ((IntKind.wrap .u32 ((IntKind.wrap .u32 ((IntKind.wrap .u32 ((x15.getD (7 : Int).toNat 0) + (bits .xor .u32 (bits .xor .u32 r27 r28) r29))) + (bits .xor .u32 (bits .and .u32 (x15.getD (4 : Int).toNat 0) (x15.getD (5 : Int).toNat 0)) (bits .and .u32 (inot .u32 (x15.getD (4 : Int).toNat 0)) (x15.getD (6 : Int).toNat 0))))) + (gConst.getD x14.toNat 0))) + (r4.getD x14.toNat 0)))))).set (0 : Int).toNat (IntKind.wrap .u32 ((IntKind.wrap .u32 ((IntKind.wrap .u32 ((IntKind.wrap .u32 ((IntKind.wrap .u32 ((IntKind.wrap .u32 ((x15.getD (7 : Int).toNat 0) + (bits .xor .u32 (bits .xor .u32 r27 r28) r29))) + (bits .xor .u32 (bits .and .u32 (x15.getD (4 : Int).toNat 0) (x15.getD (5 : Int).toNat 0)) (bits .and .u32 (inot .u32 (x15.getD (4 : Int).toNat 0)) (x15.getD (6 : Int).toNat 0))))) + (gConst.getD x14.toNat 0))) + (r4.getD x14.toNat 0))) + (bits .xor .u32 (bits .xor .u32 r31 r32) r33))) + (bits .xor .u32 (bits .xor .u32 (bits .and .u32 (x15.getD (0 : Int).toNat 0) (x15.getD (1 : Int).toNat 0)) (bits .and .u32 (x15.getD (0 : Int).toNat 0) (x15.getD (2 : Int).toNat 0))) (bits .and .u32 (x15.getD (1 : Int).toNat 0) (x15.getD (2 : Int).toNat 0))))))])] a w at h
        clear β
        obtain rfl := Option.some.inj hF
        exact ⟨rfl, h.sub [0, 1, 2, 3, 4, 5, 6, 7, 8] (by rfl)⟩
      · replace hF := ff_of hb26 hF
        replace h := h.sub [0, 1, 2, 3, 4, 6, 7, 8, 9] (by rfl)
        change SatL c [.slot 2 (lpVP p1 0), .slot 4 (lpVP p2 0), .slot 5 (lpVP p5 0), .slot 6 (lpVP p6 0), .slot 23 (intVP .i64 x14), .res (lb p1 150 [intsCk .u32 8 a_0]), .res (lb p2 150 [intsCk .u32 8 (List.replicate 8 0)]), .res (lb p5 170 [intsCk .u32 64 r4]), .res (lb p6 150 [intsCk .u32 8 x15])] a w at h
        refine wp_exit ?_
        obtain rfl := Option.some.inj hF
        exact ⟨exit_ne _, rfl, h.sub [0, 1, 3, 5, 6, 8] (by rfl)⟩
    · clear hl35
      intro e a w hq
      cases cr34 with
      | ret r36 =>
        obtain ⟨rfl, hq⟩ := hq
        obtain rfl := Option.some.inj hF
        exact ⟨.inl rfl, hq⟩
      | next s37 =>
        obtain ⟨y38, y39⟩ := s37
        obtain ⟨rfl, h⟩ := hq
        change SatL c [.slot 2 (lpVP p1 0), .slot 4 (lpVP p2 0), .slot 6 (lpVP p6 0), .res (lb p1 150 [intsCk .u32 8 a_0]), .res (lb p2 150 [intsCk .u32 8 (List.replicate 8 0)]), .res (lb p6 150 [intsCk .u32 8 y39])] a w at h
        refine inBlock_at ?_
        show Code.wp Tryd.prog _ _ a w
        refine wp_seq ?_
        refine wp_seq ?_
        refine region_do (n := 113) [.slot 100 100000 100000 (fun _ _ => (intVP .i64 0))] [0] [⟨[], [], [6], [], some 100⟩] [0, 1, 2, 6, 3, 4, 5] mixed hn hG h (by kernel_rfl) ?_ ?_
        · exact ⟨⟨rfl, fun β => (GOk.plain (op_move (opc (ic (by decide)))) rfl)⟩, trivial⟩
        clear h
        intro β a w h
        change SatL c [.slot 2 (lpVP p1 0), .slot 4 (lpVP p2 0), .slot 6 (lpVP p6 0), .slot 100 (intVP .i64 0), .res (lb p1 150 [intsCk .u32 8 a_0]), .res (lb p2 150 [intsCk .u32 8 (List.replicate 8 0)]), .res (lb p6 150 [intsCk .u32 8 y39])] a w at h
        clear β
        show Code.wp Tryd.prog _ _ a w
        refine wp_block ?_
        obtain ⟨cr49, hl50, hF⟩ := bind_some hF
        refine wp_mono (wp_loopN (R := (List Int)) (S := Int × (List Int)) (fun s a w => SatL c [.slot 2 (lpVP p1 0), .slot 4 (lpVP p2 0), .slot 6 (lpVP p6 0), .slot 100 (intVP .i64 s.1), .res (lb p1 150 [intsCk .u32 8 a_0]), .res (lb p2 150 [intsCk .u32 8 (List.replicate 8 0)]), .res (lb p6 150 [intsCk .u32 8 s.2])] a w) (fun res e a w => match res with | .next s => e = .exit 2 ∧ SatL c [.slot 4 (lpVP p2 0), .slot 6 (lpVP p6 0), .res (lb p2 150 [intsCk .u32 8 (List.replicate 8 0)]), .res (lb p6 150 [intsCk .u32 8 s.2])] a w | .ret r => e = .ret ∧ RetOk Tryd.prog Tryd.f102 c (aggVP [intsCk .u32 8 r]) (fun _ => []) a w) ?_ _ (0, y39) _ _ _ (h.sub [0, 1, 2, 3, 4, 5, 6] (by rfl)) hl50) ?_
        · clear hl50 hF h
          intro s a w o h hF
          obtain ⟨x41, x42⟩ := s
          change sha_Block.b2 a_0 x41 x42 = some o at hF
          unfold sha_Block.b2 at hF
          change SatL c [.slot 2 (lpVP p1 0), .slot 4 (lpVP p2 0), .slot 6 (lpVP p6 0), .slot 100 (intVP .i64 x41), .res (lb p1 150 [intsCk .u32 8 a_0]), .res (lb p2 150 [intsCk .u32 8 (List.replicate 8 0)]), .res (lb p6 150 [intsCk .u32 8 x42])] a w at h
          refine wp_seq ?_
          refine region_do (n := 113) [.slot 101 100000 100000 (fun _ _ => (boolVP (decide (x41 < (8 : Int)))))] [0] [⟨[3], [], [7], [], some 101⟩] [0, 1, 2, 3, 7, 4, 5, 6] mixed hn hG h (by kernel_rfl) ?_ ?_
          · exact ⟨⟨rfl, fun β => (GOk.plain (op_bin bin_lss (opt 0 rfl) (opc (ic (by decide)))) rfl)⟩, trivial⟩
          clear h
          intro β a w h
          change SatL c [.slot 2 (lpVP p1 0), .slot 4 (lpVP p2 0), .slot 6 (lpVP p6 0), .slot 100 (intVP .i64 x41), .slot 101 (boolVP (decide (x41 < (8 : Int)))), .res (lb p1 150 [intsCk .u32 8 a_0]), .res (lb p2 150 [intsCk .u32 8 (List.replicate 8 0)]), .res (lb p6 150 [intsCk .u32 8 x42])] a w at h
          clear β
          show Code.wp Tryd.prog _ _ a w
          refine wp_seq ?_
          refine cond_L h 4 rfl (fun hb47 => ?_) (fun hb47 => ?_)
          · replace hF := tt_of hb47 hF
            replace h := h.sub [0, 1, 2, 3, 5, 6, 7] (by rfl)
            change SatL c [.slot 2 (lpVP p1 0), .slot 4 (lpVP p2 0), .slot 6 (lpVP p6 0), .slot 100 (intVP .i64 x41), .res (lb p1 150 [intsCk .u32 8 a_0]), .res (lb p2 150 [intsCk .u32 8 (List.replicate 8 0)]), .res (lb p6 150 [intsCk .u32 8 x42])] a w at h
            refine wp_skip ?_
            show Code.wp Tryd.prog _ _ a w
            refine wp_seq ?_
            refine wp_block ?_
            refine wp_seq ?_
            refine region_do (n := 113) [.slot 102 100000 100000 (fun _ _ => (intVP .i64 x41)),
      .slot 15 100000 100000 (fun _ _ => (intVP .i64 x41))] [0, 1] [⟨[3], [], [7], [], some 102⟩, ⟨[7], [], [8], [0], some 15⟩] [0, 1, 2, 8, 3, 4, 5, 6] mixed hn hG h (by kernel_rfl) ?_ ?_
            · exact ⟨⟨rfl, fun β => (GOk.plain (op_move (opt 0 rfl)) rfl)⟩, ⟨rfl, fun β => (GOk.plain (op_assign (opt 0 rfl)) rfl)⟩, trivial⟩
            clear h
            intro β a w h
            change SatL c [.slot 2 (lpVP p1 0), .slot 4 (lpVP p2 0), .slot 6 (lpVP p6 0), .slot 15 (intVP .i64 x41), .slot 100 (intVP .i64 x41), .res (lb p1 150 [intsCk .u32 8 a_0]), .res (lb p2 150 [intsCk .u32 8 (List.replicate 8 0)]), .res (lb p6 150 [intsCk .u32 8 x42])] a w at h
            clear β
            show Code.wp Tryd.prog _ _ a w
            obtain ⟨hv48, hF⟩ := ite_some hF
            refine region_do (n := 113) [.slot 103 100000 100000 (fun _ _ => (intVP .i64 x41)),
      .slot 104 100000 100000 (fun _ _ => (lpVP p6 (0 + x41.toNat * 1))),
      .slot 105 100000 100000 (fun _ _ => (intVP .u32 (x42.getD x41.toNat 0))),
      .slot 106 100000 100000 (fun _ _ => (intVP .i64 x41)),
      .slot 107 100000 100000 (fun _ _ => (lpVP p1 (0 + x41.toNat * 1))),
      .slot 108 100000 100000 (fun _ _ => (intVP .u32 (a_0.getD x41.toNat 0))),
      .slot 109 100000 100000 (fun _ _ => (intVP .u32 (IntKind.wrap .u32 ((x42.getD x41.toNat 0) + (a_0.getD x41.toNat 0))))),
      .slot 110 100000 100000 (fun _ _ => (lpVP p6 (0 + x41.toNat * 1))),
      .res 100000 100000 (fun _ _ => (lb p6 150 [intsCk .u32 8 (x42.set x41.toNat (IntKind.wrap .u32 ((x42.getD x41.toNat 0) + (a_0.getD x41.toNat 0))))]))] [0, 1, 2, 3, 4, 5, 6, 7, 8] [⟨[3], [], [8], [], some 103⟩, ⟨[2, 8], [], [9], [0], some 104⟩, ⟨[9, 7], [], [10], [0, 1], some 105⟩, ⟨[3], [], [11], [], some 106⟩, ⟨[0, 11], [], [12], [3], some 107⟩, ⟨[12, 5], [], [13], [3, 4], some 108⟩, ⟨[10, 13], [], [14], [0, 1, 2, 3, 4, 5], some 109⟩, ⟨[2, 8], [], [15], [0, 1, 2, 3, 4, 5, 6], some 110⟩, ⟨[15, 14], [7], [16], [0, 1, 2, 3, 4, 5, 6, 7], none⟩] [0, 1, 2, 4, 5, 6, 16] mixed hn hG h (by kernel_rfl) ?_ ?_
            · exact ⟨⟨rfl, fun β => (GOk.plain (op_move (opt 0 rfl)) rfl)⟩, ⟨rfl, fun β => (GOk.plain (op_indexAddr_lb Tryd.underlying150 Tryd.sizeOf51 (opt 0 rfl) (opt 1 rfl) hv48) rfl)⟩, ⟨rfl, fun β => (GOk.plain (op_load_lbI (i := x41) [] [] 1 Tryd.isAgg51 (opt 0 rfl) rfl rfl hv48) rfl)⟩, ⟨rfl, fun β => (GOk.plain (op_move (opt 0 rfl)) rfl)⟩, ⟨rfl, fun β => (GOk.plain (op_indexAddr_lb Tryd.underlying150 Tryd.sizeOf51 (opt 0 rfl) (opt 1 rfl) hv48) rfl)⟩, ⟨rfl, fun β => (GOk.plain (op_load_lbI (i := x41) [] [] 1 Tryd.isAgg51 (opt 0 rfl) rfl rfl hv48) rfl)⟩, ⟨rfl, fun β => (GOk.plain (op_bin bin_add (opt 0 rfl) (opt 1 rfl)) rfl)⟩, ⟨rfl, fun β => (GOk.plain (op_indexAddr_lb Tryd.underlying150 Tryd.sizeOf51 (opt 0 rfl) (opt 1 rfl) hv48) rfl)⟩, ⟨rfl, fun β => (GOk.plain (op_store_lbI (i := x41) [] [] Tryd.sizeOf51 (opt 0 rfl) (opt 1 rfl) rfl hv48) rfl)⟩, trivial⟩
            clear h
            intro β a w h
            change SatL c [.slot 2 (lpVP p1 0), .slot 4 (lpVP p2 0), .slot 6 (lpVP p6 0), .slot 100 (intVP .i64 x41), .res (lb p1 150 [intsCk .u32 8 a_0]), .res (lb p2 150 [intsCk .u32 8 (List.replicate 8 0)]), .res (lb p6 150 [intsCk .u32 8 (x42.set x41.toNat (IntKind.wrap .u32 ((x42.getD x41.toNat 0) + (a_0.getD x41.toNat 0))))])] a w at h
            clear β
            show Code.wp Tryd.prog _ _ a w
            refine region_do (n := 113) [.slot 111 100000 100000 (fun _ _ => (intVP .i64 (IntKind.wrap .i64 (x41 + 1)))),
      .slot 100 100000 100000 (fun _ _ => (intVP .i64 (IntKind.wrap .i64 (x41 + 1))))] [0, 1] [⟨[3], [], [7], [], some 111⟩, ⟨[7], [3], [8], [0], some 100⟩] [0, 1, 2, 8, 4, 5, 6] mixed hn hG h (by kernel_rfl) ?_ ?_
            · exact ⟨⟨rfl, fun β => (GOk.plain (op_bin bin_add (opt 0 rfl) (opc (ic (by decide)))) rfl)⟩, ⟨rfl, fun β => (GOk.drop _ (GOk.plain (op_move (opt 0 rfl)) rfl))⟩, trivial⟩
            clear h
            intro β a w h
            change SatL c [.slot 2 (lpVP p1 0), .slot 4 (lpVP p2 0), .slot 6 (lpVP p6 0), .slot 100 (intVP .i64 (IntKind.wrap .i64 (x41 + 1))), .res (lb p1 150 [intsCk .u32 8 a_0]), .res (lb p2 150 [intsCk .u32 8 (List.replicate 8 0)]), .res (lb p6 150 [intsCk .u32 8 (x42.set x41.toNat (IntKind.wrap .u32 ((x42.getD x41.toNat 0) + (a_0.getD x41.toNat 0))))])] a w at h
            clear β
            obtain rfl := Option.some.inj hF
            exact ⟨rfl, h.sub [0, 1, 2, 3, 4, 5, 6] (by rfl)⟩
          · replace hF := ff_of hb47 hF
            replace h := h.sub [0, 1, 2, 3, 5, 6, 7] (by rfl)
            change SatL c [.slot 2 (lpVP p1 0), .slot 4 (lpVP p2 0), .slot 6 (lpVP p6 0), .slot 100 (intVP .i64 x41), .res (lb p1 150 [intsCk .u32 8 a_0]), .res (lb p2 150 [intsCk .u32 8 (List.replicate 8 0)]), .res (lb p6 150 [intsCk .u32 8 x42])] a w at h
            refine wp_exit ?_
            obtain rfl := Option.some.inj hF
            exact ⟨exit_ne _, rfl, h.sub [1, 2, 5, 6] (by rfl)⟩
        · clear hl50
          intro e a w hq
          cases cr49 with
          | ret r51 =>
            obtain ⟨rfl, hq⟩ := hq
            obtain rfl := Option.some.inj hF
            exact ⟨.inl rfl, hq⟩
          | next s52 =>
            obtain ⟨y53, y54⟩ := s52
            obtain ⟨rfl, h⟩ := hq
            change SatL c [.slot 4 (lpVP p2 0), .slot 6 (lpVP p6 0), .res (lb p2 150 [intsCk .u32 8 (List.replicate 8 0)]), .res (lb p6 150 [intsCk .u32 8 y54])] a w at h
            refine inBlock_at ?_
            show Code.wp Tryd.prog _ _ a w
            refine wp_seq ?_
            refine region_do (n := 113) [.slot 112 100000 100000 (fun _ _ => (aggVP [intsCk .u32 8 y54])),
      .res 100000 100000 (fun _ _ => (lb p2 150 [intsCk .u32 8 y54]))] [0, 1] [⟨[1, 3], [], [4], [], some 112⟩, ⟨[0, 4], [2], [5], [0], none⟩] [0, 5] mixed hn hG h (by kernel_rfl) ?_ ?_
            · exact ⟨⟨rfl, fun β => (GOk.plain (op_load_lb [] [intsCk .u32 8 y54] [] 1 Tryd.isAgg150 Tryd.sizeOf150 (opt 0 rfl) rfl rfl rfl) rfl)⟩, ⟨rfl, fun β => (GOk.plain (op_store_lb [] [intsCk .u32 8 (List.replicate 8 0)] [] [intsCk .u32 8 y54] Tryd.sizeOf150 (opt 0 rfl) (opt 1 rfl) (cells_agg _) rfl rfl rfl) rfl)⟩, trivial⟩
            clear h
            intro β a w h
            change SatL c [.slot 4 (lpVP p2 0), .res (lb p2 150 [intsCk .u32 8 y54])] a w at h
            clear β
            show Code.wp Tryd.prog _ _ a w
            refine wp_ret ?_
            obtain rfl := Option.some.inj hF
            exact ⟨.inl rfl, ret1 h Tryd.results102 (r_cell 0 1 rfl rfl Tryd.isAgg150 Tryd.sizeOf150 rfl) [] [] rfl rfl rfl⟩

def sha_State_Add.b1 (x8 : List UInt8) (x9 : S_sha_State) : Option (Flow S_sha_State ((List UInt8) × S_sha_State)) := (if (decide ((64 : Int) ≤ (x8.length : Int))) = true then (if (0 : Int) ≤ 0 ∧ (0 : Int) ≤ 64 ∧ (64 : Int) ≤ x8.length then ((sha_Block x9.f_Words ((x8.take 64).drop (0 : Int).toNat)).bind fun r18 => (if (0 : Int) ≤ 64 ∧ (64 : Int) ≤ (x8.length : Int) ∧ (x8.length : Int) ≤ x8.length then some (.cont ((x8.take (x8.length : Int).toNat).drop 64, (S_sha_State.mk r18 x9.f_Rest x9.f_Count))) else none)) else none) else some (.brk (x8, x9)))
def sha_State_Add (a_0 : S_sha_State) (a_1 : List UInt8) : Option S_sha_State := (if a_0.f_Rest.length + a_1.length ≤ mxl then ((loopN (fun s : (List UInt8) × S_sha_State => sha_State_Add.b1 s.1 s.2) ((((a_0.f_Rest ++ a_1).length : Int) - 64 : Int).toNat + 2) (a_0.f_Rest ++ a_1, (S_sha_State.mk a_0.f_Words a_0.f_Rest (IntKind.wrap .u64 (a_0.f_Count + (IntKind.wrap .u64 (a_1.length : Int))))))).bind fun cr => match cr with | .ret r => some r | .next (y24, y25) => some (S_sha_State.mk y25.f_Words y24 y25.f_Count)) else none)
theorem sha_State_Add_ok {a_0 : S_sha_State} {a_1 : List UInt8} {r : S_sha_State} (hF : sha_State_Add a_0 a_1 = some r) : CallOk Tryd.prog KG 97 [(aggVP [intsCk .u32 8 a_0.f_Words, one (strVP a_0.f_Rest), one (intVP .u64 a_0.f_Count)]), (strVP a_1)] [] (fun _ => []) (aggVP [intsCk .u32 8 r.f_Words, one (strVP r.f_Rest), one (intVP .u64 r.f_Count)]) := by
  refine CallOk.intro 31 Tryd.func97 rfl Tryd.ntmps97 (Nat.le_of_ble_eq_true rfl) ?_
  intro c a w hG hn h
  unfold sha_State_Add at hF
  change SatL c [.slot 0 (aggVP [intsCk .u32 8 a_0.f_Words, one (strVP a_0.f_Rest), one (intVP .u64 a_0.f_Count)]), .slot 1 (strVP a_1)] a w at h
  refine wp_seq ?_
  refine region_do (n := 31) [.slot 2 0 100000 (fun v1_ _ => (lpVP v1_ 0)),
      .res 0 100000 (fun v1_ _ => (lb (v1_) 158 [intsCk .u32 8 a_0.f_Words, one (strVP a_0.f_Rest), one (intVP .u64 a_0.f_Count)])),
      .slot 4 1 100000 (fun v1_ _ => (lpVP v1_ 0)),
      .res 1 100000 (fun v1_ _ => (lb (v1_) 158 [intsCk .u32 8 ((S_sha_State.mk (List.replicate 8 0) [] (0 : Int)).f_Words), one (strVP ((S_sha_State.mk (List.replicate 8 0) [] (0 : Int)).f_Rest)), one (intVP .u64 ((S_sha_State.mk (List.replicate 8 0) [] (0 : Int)).f_Count))]))] [0, 0, 1, 1] [⟨[0], [], [2, 3], [], some 2⟩, ⟨[], [], [4, 5], [0], some 4⟩] [1, 2, 4, 3, 5] mixed hn hG h (by kernel_rfl) ?_ ?_
  · exact ⟨⟨rfl, fun β => (GOk.plain (op_box (opt 0 rfl) (cells_agg _)) rfl)⟩, ⟨rfl, fun β => (GOk.plain (op_alloc Tryd.zeroValue158 z158) rfl)⟩, trivial⟩
  clear h
  intro β a w h
  change SatL c [.slot 1 (strVP a_1), .slot 2 (lpVP (β 0) 0), .slot 4 (lpVP (β 1) 0), .res (lb (β 0) 158 [intsCk .u32 8 a_0.f_Words, one (strVP a_0.f_Rest), one (intVP .u64 a_0.f_Count)]), .res (lb (β 1) 158 [intsCk .u32 8 ((S_sha_State.mk (List.replicate 8 0) [] (0 : Int)).f_Words), one (strVP ((S_sha_State.mk (List.replicate 8 0) [] (0 : Int)).f_Rest)), one (intVP .u64 ((S_sha_State.mk (List.replicate 8 0) [] (0 : Int)).f_Count))])] a w at h
  generalize β 0 = p1 at h
  generalize β 1 = p2 at h
  clear β
  show Code.wp Tryd.prog _ _ a w
  refine wp_seq ?_
  refine region_do (n := 31) [.slot 6 100000 100000 (fun _ _ => (lpVP p1 9)),
      .slot 7 100000 100000 (fun _ _ => (intVP .u64 a_0.f_Count)),
      .slot 8 100000 100000 (fun _ _ => (strVP a_1)),
      .slot 9 100000 100000 (fun _ _ => (intVP .i64 (a_1.length : Int))),
      .slot 10 100000 100000 (fun _ _ => (intVP .u64 (IntKind.wrap .u64 (a_1.length : Int)))),
      .slot 11 100000 100000 (fun _ _ => (intVP .u64 (IntKind.wrap .u64 (a_0.f_Count + (IntKind.wrap .u64 (a_1.length : Int)))))),
      .slot 12 100000 100000 (fun _ _ => (lpVP p1 9)),
      .res 100000 100000 (fun _ _ => (lb p1 158 [intsCk .u32 8 a_0.f_Words, one (strVP a_0.f_Rest), one (intVP .u64 (IntKind.wrap .u64 (a_0.f_Count + (IntKind.wrap .u64 (a_1.length : Int)))))]))] [0, 1, 2, 3, 4, 5, 6, 7] [⟨[1], [], [5], [], some 6⟩, ⟨[5, 3], [], [6], [0], some 7⟩, ⟨[0], [], [7], [0, 1], some 8⟩, ⟨[7], [], [8], [0, 1, 2], some 9⟩, ⟨[8], [], [9], [0, 1, 2, 3], some 10⟩, ⟨[6, 9], [], [10], [0, 1, 2, 3, 4], some 11⟩, ⟨[1], [], [11], [0, 1, 2, 3, 4, 5], some 12⟩, ⟨[11, 10], [3], [12], [0, 1, 2, 3, 4, 5, 6], none⟩] [0, 1, 2, 12, 4] mixed hn hG h (by kernel_rfl) ?_ ?_
  · exact ⟨⟨rfl, fun β => (GOk.plain (op_fieldAddr_lbm (p := p1) (n := 1) 0 9 Tryd.underlying158 rfl Tryd.sizeOf114 (by decide) (opt 0 rfl) rfl) rfl)⟩, ⟨rfl, fun β => (GOk.plain (op_load_lb1 [intsCk .u32 8 a_0.f_Words, one (strVP a_0.f_Rest)] [] 1 Tryd.isAgg114 (opt 0 rfl) rfl rfl) rfl)⟩, ⟨rfl, fun β => (GOk.plain (op_move (opt 0 rfl)) rfl)⟩, ⟨rfl, fun β => (GOk.plain (op_len_str Tryd.underlying9 (opt 0 rfl)) rfl)⟩, ⟨rfl, fun β => (GOk.plain (op_convert_int Tryd.underlying3 Tryd.underlying114 (opt 0 rfl)) rfl)⟩, ⟨rfl, fun β => (GOk.plain (op_bin bin_add (opt 0 rfl) (opt 1 rfl)) rfl)⟩, ⟨rfl, fun β => (GOk.plain (op_fieldAddr_lbm (p := p1) (n := 1) 0 9 Tryd.underlying158 rfl Tryd.sizeOf114 (by decide) (opt 0 rfl) rfl) rfl)⟩, ⟨rfl, fun β => (GOk.plain (op_store_lb [intsCk .u32 8 a_0.f_Words, one (strVP a_0.f_Rest)] [one (intVP .u64 a_0.f_Count)] [] [one (intVP .u64 (IntKind.wrap .u64 (a_0.f_Count + (IntKind.wrap .u64 (a_1.length : Int)))))] Tryd.sizeOf114 (opt 0 rfl) (opt 1 rfl) (cells_one (one_int _ _)) rfl rfl rfl) rfl)⟩, trivial⟩
  clear h
  intro β a w h
  change SatL c [.slot 1 (strVP a_1), .slot 2 (lpVP p1 0), .slot 4 (lpVP p2 0), .res (lb p1 158 [intsCk .u32 8 a_0.f_Words, one (strVP a_0.f_Rest), one (intVP .u64 (IntKind.wrap .u64 (a_0.f_Count + (IntKind.wrap .u64 (a_1.length : Int)))))]), .res (lb p2 158 [intsCk .u32 8 ((S_sha_State.mk (List.replicate 8 0) [] (0 : Int)).f_Words), one (strVP ((S_sha_State.mk (List.replicate 8 0) [] (0 : Int)).f_Rest)), one (intVP .u64 ((S_sha_State.mk (List.replicate 8 0) [] (0 : Int)).f_Count))])] a w at h
  clear β
  show Code.wp Tryd.prog _ _ a w
  refine wp_seq ?_
  obtain ⟨hv3, hF⟩ := ite_some hF
  refine region_do (n := 31) [.slot 13 100000 100000 (fun _ _ => (lpVP p1 8)),
      .slot 14 100000 100000 (fun _ _ => (strVP a_0.f_Rest)),
      .slot 15 100000 100000 (fun _ _ => (strVP a_1)),
      .slot 16 100000 100000 (fun _ _ => (strVP (a_0.f_Rest ++ a_1))),
      .slot 5 100000 100000 (fun _ _ => (strVP (a_0.f_Rest ++ a_1)))] [0, 1, 2, 3, 4] [⟨[1], [], [5], [], some 13⟩, ⟨[5, 3], [], [6], [0], some 14⟩, ⟨[0], [], [7], [0, 1], some 15⟩, ⟨[6, 7], [], [8], [0, 1, 2], some 16⟩, ⟨[8], [], [9], [0, 1, 2, 3], some 5⟩] [1, 2, 9, 3, 4] mixed hn hG h (by kernel_rfl) ?_ ?_
  · exact ⟨⟨rfl, fun β => (GOk.plain (op_fieldAddr_lbm (p := p1) (n := 1) 0 8 Tryd.underlying158 rfl Tryd.sizeOf9 (by decide) (opt 0 rfl) rfl) rfl)⟩, ⟨rfl, fun β => (GOk.plain (op_load_lb1 [intsCk .u32 8 a_0.f_Words] [one (intVP .u64 (IntKind.wrap .u64 (a_0.f_Count + (IntKind.wrap .u64 (a_1.length : Int)))))] 1 Tryd.isAgg9 (opt 0 rfl) rfl rfl) rfl)⟩, ⟨rfl, fun β => (GOk.plain (op_move (opt 0 rfl)) rfl)⟩, ⟨rfl, fun β => (GOk.plain (op_bin (bin_sadd hv3) (opt 0 rfl) (opt 1 rfl)) rfl)⟩, ⟨rfl, fun β => (GOk.plain (op_assign (opt 0 rfl)) rfl)⟩, trivial⟩
  clear h
  intro β a w h
  change SatL c [.slot 2 (lpVP p1 0), .slot 4 (lpVP p2 0), .slot 5 (strVP (a_0.f_Rest ++ a_1)), .res (lb p1 158 [intsCk .u32 8 a_0.f_Words, one (strVP a_0.f_Rest), one (intVP .u64 (IntKind.wrap .u64 (a_0.f_Count + (IntKind.wrap .u64 (a_1.length : Int)))))]), .res (lb p2 158 [intsCk .u32 8 ((S_sha_State.mk (List.replicate 8 0) [] (0 : Int)).f_Words), one (strVP ((S_sha_State.mk (List.replicate 8 0) [] (0 : Int)).f_Rest)), one (intVP .u64 ((S_sha_State.mk (List.replicate 8 0) [] (0 : Int)).f_Count))])] a w at h
  clear β
  show Code.wp Tryd.prog _ _ a w
  refine wp_seq ?_
  refine wp_block ?_
  obtain ⟨cr20, hl21, hF⟩ := bind_some hF
  refine wp_mono (wp_loopN (R := S_sha_State) (S := (List UInt8) × S_sha_State) (fun s a w => SatL c [.slot 2 (lpVP p1 0), .slot 4 (lpVP p2 0), .slot 5 (strVP s.1), .res (lb p1 158 [intsCk .u32 8 s.2.f_Words, one (strVP s.2.f_Rest), one (intVP .u64 s.2.f_Count)]), .res (lb p2 158 [intsCk .u32 8 ((S_sha_State.mk (List.replicate 8 0) [] (0 : Int)).f_Words), one (strVP ((S_sha_State.mk (List.replicate 8 0) [] (0 : Int)).f_Rest)), one (intVP .u64 ((S_sha_State.mk (List.replicate 8 0) [] (0 : Int)).f_Count))])] a w) (fun res e a w => match res with | .next s => e = .exit 0 ∧ SatL c [.slot 2 (lpVP p1 0), .slot 4 (lpVP p2 0), .slot 5 (strVP s.1), .res (lb p1 158 [intsCk .u32 8 s.2.f_Words, one (strVP s.2.f_Rest), one (intVP .u64 s.2.f_Count)]), .res (lb p2 158 [intsCk .u32 8 ((S_sha_State.mk (List.replicate 8 0) [] (0 : Int)).f_Words), one (strVP ((S_sha_State.mk (List.replicate 8 0) [] (0 : Int)).f_Rest)), one (intVP .u64 ((S_sha_State.mk (List.replicate 8 0) [] (0 : Int)).f_Count))])] a w | .ret r => e = .ret ∧ RetOk Tryd.prog Tryd.f97 c (aggVP [intsCk .u32 8 r.f_Words, one (strVP r.f_Rest), one (intVP .u64 r.f_Count)]) (fun _ => []) a w) ?_ _ (a_0.f_Rest ++ a_1, (S_sha_State.mk a_0.f_Words a_0.f_Rest (IntKind.wrap .u64 (a_0.f_Count + (IntKind.wrap .u64 (a_1.length : Int)))))) _ _ _ (h.sub [0, 1, 2, 3, 4] (by rfl)) hl21) ?_
  · clear hl21 hF h
    intro s a w o h hF
    obtain ⟨x8, x9⟩ := s
    change sha_State_Add.b1 x8 x9 = some o at hF
    unfold sha_State_Add.b1 at hF
    change SatL c [.slot 2 (lpVP p1 0), .slot 4 (lpVP p2 0), .slot 5 (strVP x8), .res (lb p1 158 [intsCk .u32 8 x9.f_Words, one (strVP x9.f_Rest), one (intVP .u64 x9.f_Count)]), .res (lb p2 158 [intsCk .u32 8 ((S_sha_State.mk (List.replicate 8 0) [] (0 : Int)).f_Words), one (strVP ((S_sha_State.mk (List.replicate 8 0) [] (0 : Int)).f_Rest)), one (intVP .u64 ((S_sha_State.mk (List.replicate 8 0) [] (0 : Int)).f_Count))])] a w at h
    refine wp_seq ?_
    refine wp_seq ?_
    refine region_do (n := 31) [.slot 17 100000 100000 (fun _ _ => (strVP x8)),
      .slot 18 100000 100000 (fun _ _ => (intVP .i64 (x8.length : Int))),
      .slot 19 100000 100000 (fun _ _ => (boolVP (decide ((64 : Int) ≤ (x8.length : Int)))))] [0, 1, 2] [⟨[2], [], [5], [], some 17⟩, ⟨[5], [], [6], [0], some 18⟩, ⟨[6], [], [7], [0, 1], some 19⟩] [0, 1, 2, 7, 3, 4] mixed hn hG h (by kernel_rfl) ?_ ?_
    · exact ⟨⟨rfl, fun β => (GOk.plain (op_move (opt 0 rfl)) rfl)⟩, ⟨rfl, fun β => (GOk.plain (op_len_str Tryd.underlying9 (opt 0 rfl)) rfl)⟩, ⟨rfl, fun β => (GOk.plain (op_bin bin_geq (opt 0 rfl) (opc (ic (by decide)))) rfl)⟩, trivial⟩
    clear h
    intro β a w h
    change SatL c [.slot 2 (lpVP p1 0), .slot 4 (lpVP p2 0), .slot 5 (strVP x8), .slot 19 (boolVP (decide ((64 : Int) ≤ (x8.length : Int)))), .res (lb p1 158 [intsCk .u32 8 x9.f_Words, one (strVP x9.f_Rest), one (intVP .u64 x9.f_Count)]), .res (lb p2 158 [intsCk .u32 8 ((S_sha_State.mk (List.replicate 8 0) [] (0 : Int)).f_Words), one (strVP ((S_sha_State.mk (List.replicate 8 0) [] (0 : Int)).f_Rest)), one (intVP .u64 ((S_sha_State.mk (List.replicate 8 0) [] (0 : Int)).f_Count))])] a w at h
    clear β
    show Code.wp Tryd.prog _ _ a w
    refine cond_L h 3 rfl (fun hb16 => ?_) (fun hb16 => ?_)
    · replace hF := tt_of hb16 hF
      replace h := h.sub [0, 1, 2, 4, 5] (by rfl)
      change SatL c [.slot 2 (lpVP p1 0), .slot 4 (lpVP p2 0), .slot 5 (strVP x8), .res (lb p1 158 [intsCk .u32 8 x9.f_Words, one (strVP x9.f_Rest), one (intVP .u64 x9.f_Count)]), .res (lb p2 158 [intsCk .u32 8 ((S_sha_State.mk (List.replicate 8 0) [] (0 : Int)).f_Words), one (strVP ((S_sha_State.mk (List.replicate 8 0) [] (0 : Int)).f_Rest)), one (intVP .u64 ((S_sha_State.mk (List.replicate 8 0) [] (0 : Int)).f_Count))])] a w at h
      refine wp_skip ?_
      show Code.wp Tryd.prog _ _ a w
      refine wp_block ?_
      refine wp_seq ?_
      obtain ⟨hv17, hF⟩ := ite_some hF
      obtain ⟨r18, hr18, hF⟩ := bind_some hF
      refine region_do (n := 31) [.slot 20 100000 100000 (fun _ _ => (lpVP p1 0)),
      .slot 21 100000 100000 (fun _ _ => (aggVP [intsCk .u32 8 x9.f_Words])),
      .slot 22 100000 100000 (fun _ _ => (strVP x8)),
      .slot 23 100000 100000 (fun _ _ => (strVP ((x8.take 64).drop (0 : Int).toNat))),
      .slot 24 100000 100000 (fun _ _ => (aggVP [intsCk .u32 8 r18])),
      .slot 25 100000 100000 (fun _ _ => (lpVP p1 0)),
      .res 100000 100000 (fun _ _ => (lb p1 158 [intsCk .u32 8 r18, one (strVP x9.f_Rest), one (intVP .u64 x9.f_Count)]))] [0, 1, 2, 3, 4, 5, 6] [⟨[0], [], [5], [], some 20⟩, ⟨[5, 3], [], [6], [0], some 21⟩, ⟨[2], [], [7], [], some 22⟩, ⟨[7], [], [8], [2], some 23⟩, ⟨[6, 8], [], [9], [0, 1, 2, 3], some 24⟩, ⟨[0], [], [10], [0, 1, 2, 3, 4], some 25⟩, ⟨[10, 9], [3], [11], [0, 1, 2, 3, 4, 5], none⟩] [0, 1, 2, 11, 4] mixed hn hG h (by kernel_rfl) ?_ ?_
      · exact ⟨⟨rfl, fun β => (GOk.plain (op_fieldAddr_lbm (p := p1) (n := 8) 0 0 Tryd.underlying158 rfl Tryd.sizeOf150 (by decide) (opt 0 rfl) rfl) rfl)⟩, ⟨rfl, fun β => (GOk.plain (op_load_lb [] [intsCk .u32 8 x9.f_Words] [one (strVP x9.f_Rest), one (intVP .u64 x9.f_Count)] 1 Tryd.isAgg150 Tryd.sizeOf150 (opt 0 rfl) rfl rfl rfl) rfl)⟩, ⟨rfl, fun β => (GOk.plain (op_move (opt 0 rfl)) rfl)⟩, ⟨rfl, fun β => (GOk.plain (op_slice_str (a := 0) (b := 64) Tryd.underlying9 (opt 0 rfl) rfl ⟨_, (opc (ic (by decide)))⟩ hv17) rfl)⟩, ⟨rfl, fun β => (GOk.plain (op_call Tryd.call102 (sha_Block_ok hr18) ⟨(opt 0 rfl), (opt 1 rfl), trivial⟩) rfl)⟩, ⟨rfl, fun β => (GOk.plain (op_fieldAddr_lbm (p := p1) (n := 8) 0 0 Tryd.underlying158 rfl Tryd.sizeOf150 (by decide) (opt 0 rfl) rfl) rfl)⟩, ⟨rfl, fun β => (GOk.plain (op_store_lb [] [intsCk .u32 8 x9.f_Words] [one (strVP x9.f_Rest), one (intVP .u64 x9.f_Count)] [intsCk .u32 8 r18] Tryd.sizeOf150 (opt 0 rfl) (opt 1 rfl) (cells_agg _) rfl rfl rfl) rfl)⟩, trivial⟩
      clear h
      intro β a w h
      change SatL c [.slot 2 (lpVP p1 0), .slot 4 (lpVP p2 0), .slot 5 (strVP x8), .res (lb p1 158 [intsCk .u32 8 r18, one (strVP x9.f_Rest), one (intVP .u64 x9.f_Count)]), .res (lb p2 158 [intsCk .u32 8 ((S_sha_State.mk (List.replicate 8 0) [] (0 : Int)).f_Words), one (strVP ((S_sha_State.mk (List.replicate 8 0) [] (0 : Int)).f_Rest)), one (intVP .u64 ((S_sha_State.mk (List.replicate 8 0) [] (0 : Int)).f_Count))])] a w at h
      clear β
      show Code.wp Tryd.prog _ _ a w
      obtain ⟨hv19, hF⟩ := ite_some hF
      refine region_do (n := 31) [.slot 26 100000 100000 (fun _ _ => (strVP x8)),
      .slot 27 100000 100000 (fun _ _ => (strVP ((x8.take (x8.length : Int).toNat).drop 64))),
      .slot 5 100000 100000 (fun _ _ => (strVP ((x8.take (x8.length : Int).toNat).drop 64)))] [0, 1, 2] [⟨[2], [], [5], [], some 26⟩, ⟨[5], [], [6], [0], some 27⟩, ⟨[6], [2], [7], [0, 1], some 5⟩] [0, 1, 7, 3, 4] mixed hn hG h (by kernel_rfl) ?_ ?_
      · exact ⟨⟨rfl, fun β => (GOk.plain (op_move (opt 0 rfl)) rfl)⟩, ⟨rfl, fun β => (GOk.plain (op_slice_str (a := 64) (b := (x8.length : Int)) Tryd.underlying9 (opt 0 rfl) ⟨_, (opc (ic (by decide)))⟩ rfl hv19) rfl)⟩, ⟨rfl, fun β => (GOk.drop _ (GOk.plain (op_assign (opt 0 rfl)) rfl))⟩, trivial⟩
      clear h
      intro β a w h
      change SatL c [.slot 2 (lpVP p1 0), .slot 4 (lpVP p2 0), .slot 5 (strVP ((x8.take (x8.length : Int).toNat).drop 64)), .res (lb p1 158 [intsCk .u32 8 r18, one (strVP x9.f_Rest), one (intVP .u64 x9.f_Count)]), .res (lb p2 158 [intsCk .u32 8 ((S_sha_State.mk (List.replicate 8 0) [] (0 : Int)).f_Words), one (strVP ((S_sha_State.mk (List.replicate 8 0) [] (0 : Int)).f_Rest)), one (intVP .u64 ((S_sha_State.mk (List.replicate 8 0) [] (0 : Int)).f_Count))])] a w at h
      clear β
      obtain rfl := Option.some.inj hF
      exact ⟨rfl, h.sub [0, 1, 2, 3, 4] (by rfl)⟩
    · replace hF := ff_of hb16 hF
      replace h := h.sub [0, 1, 2, 4, 5] (by rfl)
      change SatL c [.slot 2 (lpVP p1 0), .slot 4 (lpVP p2 0), .slot 5 (strVP x8), .res (lb p1 158 [intsCk .u32 8 x9.f_Words, one (strVP x9.f_Rest), one (intVP .u64 x9.f_Count)]), .res (lb p2 158 [intsCk .u32 8 ((S_sha_State.mk (List.replicate 8 0) [] (0 : Int)).f_Words), one (strVP ((S_sha_State.mk (List.replicate 8 0) [] (0 : Int)).f_Rest)), one (intVP .u64 ((S_sha_State.mk (List.replicate 8 0) [] (0 : Int)).f_Count))])] a w at h
      refine wp_exit ?_
      obtain rfl := Option.some.inj hF
      exact ⟨exit_ne _, rfl, h.sub [0, 1, 2, 3, 4] (by rfl)⟩
  · clear hl21
    intro e a w hq
    cases cr20 with
    | ret r22 =>
      obtain ⟨rfl, hq⟩ := hq
      obtain rfl := Option.some.inj hF
      exact ⟨.inl rfl, hq⟩
    | next s23 =>
      obtain ⟨y24, y25⟩ := s23
      obtain ⟨rfl, h⟩ := hq
      change SatL c [.slot 2 (lpVP p1 0), .slot 4 (lpVP p2 0), .slot 5 (strVP y24), .res (lb p1 158 [intsCk .u32 8 y25.f_Words, one (strVP y25.f_Rest), one (intVP .u64 y25.f_Count)]), .res (lb p2 158 [intsCk .u32 8 ((S_sha_State.mk (List.replicate 8 0) [] (0 : Int)).f_Words), one (strVP ((S_sha_State.mk (List.replicate 8 0) [] (0 : Int)).f_Rest)), one (intVP .u64 ((S_sha_State.mk (List.replicate 8 0) [] (0 : Int)).f_Count))])] a w at h
      refine inBlock_at ?_
      show Code.wp Tryd.prog _ _ a w
      refine wp_seq ?_
      refine region_do (n := 31) [.slot 28 100000 100000 (fun _ _ => (strVP y24)),
      .slot 29 100000 100000 (fun _ _ => (lpVP p1 8)),
      .res 100000 100000 (fun _ _ => (lb p1 158 [intsCk .u32 8 y25.f_Words, one (strVP y24), one (intVP .u64 y25.f_Count)]))] [0, 1, 2] [⟨[2], [], [5], [], some 28⟩, ⟨[0], [], [6], [0], some 29⟩, ⟨[6, 5], [3], [7], [0, 1], none⟩] [0, 1, 7, 4] mixed hn hG h (by kernel_rfl) ?_ ?_
      · exact ⟨⟨rfl, fun β => (GOk.plain (op_move (opt 0 rfl)) rfl)⟩, ⟨rfl, fun β => (GOk.plain (op_fieldAddr_lbm (p := p1) (n := 1) 0 8 Tryd.underlying158 rfl Tryd.sizeOf9 (by decide) (opt 0 rfl) rfl) rfl)⟩, ⟨rfl, fun β => (GOk.plain (op_store_lb [intsCk .u32 8 y25.f_Words] [one (strVP y25.f_Rest)] [one (intVP .u64 y25.f_Count)] [one (strVP y24)] Tryd.sizeOf9 (opt 0 rfl) (opt 1 rfl) (cells_one (one_str _)) rfl rfl rfl) rfl)⟩, trivial⟩
      clear h
      intro β a w h
      change SatL c [.slot 2 (lpVP p1 0), .slot 4 (lpVP p2 0), .res (lb p1 158 [intsCk .u32 8 y25.f_Words, one (strVP y24), one (intVP .u64 y25.f_Count)]), .res (lb p2 158 [intsCk .u32 8 ((S_sha_State.mk (List.replicate 8 0) [] (0 : Int)).f_Words), one (strVP ((S_sha_State.mk (List.replicate 8 0) [] (0 : Int)).f_Rest)), one (intVP .u64 ((S_sha_State.mk (List.replicate 8 0) [] (0 : Int)).f_Count))])] a w at h
      clear β
      show Code.wp Tryd.prog _ _ a w
      refine wp_seq ?_
      refine region_do (n := 31) [.slot 30 100000 100000 (fun _ _ => (aggVP [intsCk .u32 8 y25.f_Words, one (strVP y24), one (intVP .u64 y25.f_Count)])),
      .res 100000 100000 (fun _ _ => (lb p2 158 [intsCk .u32 8 y25.f_Words, one (strVP y24), one (intVP .u64 y25.f_Count)]))] [0, 1] [⟨[0, 2], [], [4], [], some 30⟩, ⟨[1, 4], [3], [5], [0], none⟩] [1, 5] mixed hn hG h (by kernel_rfl) ?_ ?_
      · exact ⟨⟨rfl, fun β => (GOk.plain (op_load_lb [] [intsCk .u32 8 y25.f_Words, one (strVP y24), one (intVP .u64 y25.f_Count)] [] 1 Tryd.isAgg158 Tryd.sizeOf158 (opt 0 rfl) rfl rfl rfl) rfl)⟩, ⟨rfl, fun β => (GOk.plain (op_store_lb [] [intsCk .u32 8 ((S_sha_State.mk (List.replicate 8 0) [] (0 : Int)).f_Words), one (strVP ((S_sha_State.mk (List.replicate 8 0) [] (0 : Int)).f_Rest)), one (intVP .u64 ((S_sha_State.mk (List.replicate 8 0) [] (0 : Int)).f_Count))] [] [intsCk .u32 8 y25.f_Words, one (strVP y24), one (intVP .u64 y25.f_Count)] Tryd.sizeOf158 (opt 0 rfl) (opt 1 rfl) (cells_agg _) rfl rfl rfl) rfl)⟩, trivial⟩
      clear h
      intro β a w h
      change SatL c [.slot 4 (lpVP p2 0), .res (lb p2 158 [intsCk .u32 8 y25.f_Words, one (strVP y24), one (intVP .u64 y25.f_Count)])] a w at h
      clear β
      show Code.wp Tryd.prog _ _ a w
      refine wp_ret ?_
      obtain rfl := Option.some.inj hF
      exact ⟨.inl rfl, ret1 h Tryd.results97 (r_cell 0 1 rfl rfl Tryd.isAgg158 Tryd.sizeOf158 rfl) [] [] rfl rfl rfl⟩

def sha_State_End.b1 (a_0 : S_sha_State) (x6 : Int) (x7 : List UInt8) : Option (Flow (List UInt8) (Int × (List UInt8))) := (if (decide (x6 < (8 : Int))) = true then (if (0 : Int) ≤ IntKind.wrap .i64 (56 - (IntKind.wrap .i64 (8 * x6))) then (if (0 : Int) ≤ x6 ∧ x6 < 8 then some (.cont (IntKind.wrap .i64 (x6 + 1), x7.set x6.toNat (u8of (IntKind.wrap .u8 (shr .u64 (IntKind.wrap .u64 (8 * a_0.f_Count)) (IntKind.wrap .i64 (56 - (IntKind.wrap .i64 (8 * x6))))))))) else none) else none) else some (.brk (x6, x7)))
def sha_State_End.b3 (r25 : S_sha_State) (x38 : Int) (x59 : Int) (x60 : List UInt8) : Option (Flow (List UInt8) (Int × (List UInt8))) := (if (decide (x59 < (4 : Int))) = true then (if (0 : Int) ≤ IntKind.wrap .i64 (24 - (IntKind.wrap .i64 (8 * x59))) then (if (0 : Int) ≤ IntKind.wrap .i64 ((IntKind.wrap .i64 (4 * x38)) + x59) ∧ IntKind.wrap .i64 ((IntKind.wrap .i64 (4 * x38)) + x59) < 32 then some (.cont (IntKind.wrap .i64 (x59 + 1), x60.set (IntKind.wrap .i64 ((IntKind.wrap .i64 (4 * x38)) + x59)).toNat (u8of (IntKind.wrap .u8 (shr .u32 (r25.f_Words.getD x38.toNat 0) (IntKind.wrap .i64 (24 - (IntKind.wrap .i64 (8 * x59))))))))) else none) else none) else some (.brk (x59, x60)))
def sha_State_End.b2 (r25 : S_sha_State) (x38 : Int) (x39 : List UInt8) : Option (Flow (List UInt8) (Int × (List UInt8))) := (if (decide (x38 < (8 : Int))) = true then (if (0 : Int) ≤ x38 ∧ x38 < 8 then ((loopN (fun s : Int × (List UInt8) => sha_State_End.b3 r25 x38 s.1 s.2) ((4 - 0 : Int).toNat + 2) (0, x39)).bind fun cr => match cr with | .ret r => some (.ret r) | .next (y73, y74) => some (.cont (IntKind.wrap .i64 (x38 + 1), y74))) else none) else some (.brk (x38, x39)))
def sha_State_End (a_0 : S_sha_State) : Option (List UInt8) := ((loopN (fun s : Int × (List UInt8) => sha_State_End.b1 a_0 s.1 s.2) ((8 - 0 : Int).toNat + 2) (0, (List.replicate 8 0))).bind fun cr => match cr with | .ret r => some r | .next (y20, y21) => (if (0 : Int) ≤ (IntKind.wrap .i64 (119 - ((a_0.f_Rest.length : Int).tmod 64))).tmod 64 ∧ [0].length * ((IntKind.wrap .i64 (119 - ((a_0.f_Rest.length : Int).tmod 64))).tmod 64 : Int).toNat ≤ 140737488355328 then (if [128].length + (Lib.repeatL [0] ((IntKind.wrap .i64 (119 - ((a_0.f_Rest.length : Int).tmod 64))).tmod 64 : Int).toNat).length ≤ mxl then (if ([128] ++ (Lib.repeatL [0] ((IntKind.wrap .i64 (119 - ((a_0.f_Rest.length : Int).tmod 64))).tmod 64 : Int).toNat)).length + (y21.take ((8 : Int).toNat - (0 : Int).toNat)).length ≤ mxl then ((sha_State_Add a_0 (([128] ++ (Lib.repeatL [0] ((IntKind.wrap .i64 (119 - ((a_0.f_Rest.length : Int).tmod 64))).tmod 64 : Int).toNat)) ++ (y21.take ((8 : Int).toNat - (0 : Int).toNat)))).bind fun r25 => ((loopN (fun s : Int × (List UInt8) => sha_State_End.b2 r25 s.1 s.2) ((8 - 0 : Int).toNat + 2) (0, (List.replicate 32 0))).bind fun cr => match cr with | .ret r => some r | .next (y79, y80) => some y80)) else none) else none) else none))
theorem sha_State_End_ok {a_0 : S_sha_State} {r : (List UInt8)} (hF : sha_State_End a_0 = some r) : CallOk Tryd.prog KG 98 [(aggVP [intsCk .u32 8 a_0.f_Words, one (strVP a_0.f_Rest), one (intVP .u64 a_0.f_Count)])] [] (fun _ => []) (aggVP [bytesCk 32 r]) := by
  refine CallOk.intro 63 Tryd.func98 rfl Tryd.ntmps98 (Nat.le_of_ble_eq_true rfl) ?_
  intro c a w hG hn h
  unfold sha_State_End at hF
  change SatL c [.slot 0 (aggVP [intsCk .u32 8 a_0.f_Words, one (strVP a_0.f_Rest), one (intVP .u64 a_0.f_Count)])] a w at h
  refine wp_seq ?_
  refine region_do (n := 63) [.slot 1 0 100000 (fun v1_ _ => (lpVP v1_ 0)),
      .res 0 100000 (fun v1_ _ => (lb (v1_) 158 [intsCk .u32 8 a_0.f_Words, one (strVP a_0.f_Rest), one (intVP .u64 a_0.f_Count)])),
      .slot 2 1 100000 (fun v1_ _ => (lpVP v1_ 0)),
      .res 1 100000 (fun v1_ _ => (lb (v1_) 23 [bytesCk 32 (List.replicate 32 0)]))] [0, 0, 1, 1] [⟨[0], [], [1, 2], [], some 1⟩, ⟨[], [], [3, 4], [0], some 2⟩] [1, 3, 2, 4] mixed hn hG h (by kernel_rfl) ?_ ?_
  · exact ⟨⟨rfl, fun β => (GOk.plain (op_box (opt 0 rfl) (cells_agg _)) rfl)⟩, ⟨rfl, fun β => (GOk.plain (op_alloc Tryd.zeroValue23 z23) rfl)⟩, trivial⟩
  clear h
  intro β a w h
  change SatL c [.slot 1 (lpVP (β 0) 0), .slot 2 (lpVP (β 1) 0), .res (lb (β 0) 158 [intsCk .u32 8 a_0.f_Words, one (strVP a_0.f_Rest), one (intVP .u64 a_0.f_Count)]), .res (lb (β 1) 23 [bytesCk 32 (List.replicate 32 0)])] a w at h
  generalize β 0 = p1 at h
  generalize β 1 = p2 at h
  clear β
  show Code.wp Tryd.prog _ _ a w
  refine wp_seq ?_
  refine region_do (n := 63) [.slot 11 100000 100000 (fun _ _ => (lpVP p1 9)),
      .slot 12 100000 100000 (fun _ _ => (intVP .u64 a_0.f_Count)),
      .slot 13 100000 100000 (fun _ _ => (intVP .u64 (IntKind.wrap .u64 (8 * a_0.f_Count)))),
      .slot 3 100000 100000 (fun _ _ => (intVP .u64 (IntKind.wrap .u64 (8 * a_0.f_Count))))] [0, 1, 2, 3] [⟨[0], [], [4], [], some 11⟩, ⟨[4, 2], [], [5], [0], some 12⟩, ⟨[5], [], [6], [0, 1], some 13⟩, ⟨[6], [], [7], [0, 1, 2], some 3⟩] [0, 1, 7, 2, 3] mixed hn hG h (by kernel_rfl) ?_ ?_
  · exact ⟨⟨rfl, fun β => (GOk.plain (op_fieldAddr_lbm (p := p1) (n := 1) 0 9 Tryd.underlying158 rfl Tryd.sizeOf114 (by decide) (opt 0 rfl) rfl) rfl)⟩, ⟨rfl, fun β => (GOk.plain (op_load_lb1 [intsCk .u32 8 a_0.f_Words, one (strVP a_0.f_Rest)] [] 1 Tryd.isAgg114 (opt 0 rfl) rfl rfl) rfl)⟩, ⟨rfl, fun β => (GOk.plain (op_bin bin_mul (opc (ic (by decide))) (opt 0 rfl)) rfl)⟩, ⟨rfl, fun β => (GOk.plain (op_assign (opt 0 rfl)) rfl)⟩, trivial⟩
  clear h
  intro β a w h
  change SatL c [.slot 1 (lpVP p1 0), .slot 2 (lpVP p2 0), .slot 3 (intVP .u64 (IntKind.wrap .u64 (8 * a_0.f_Count))), .res (lb p1 158 [intsCk .u32 8 a_0.f_Words, one (strVP a_0.f_Rest), one (intVP .u64 a_0.f_Count)]), .res (lb p2 23 [bytesCk 32 (List.replicate 32 0)])] a w at h
  clear β
  show Code.wp Tryd.prog _ _ a w
  refine wp_seq ?_
  refine region_do (n := 63) [.slot 14 100000 100000 (fun _ _ => (lpVP p1 8)),
      .slot 15 100000 100000 (fun _ _ => (strVP a_0.f_Rest)),
      .slot 16 100000 100000 (fun _ _ => (intVP .i64 (a_0.f_Rest.length : Int))),
      .slot 17 100000 100000 (fun _ _ => (intVP .i64 ((a_0.f_Rest.length : Int).tmod 64))),
      .slot 18 100000 100000 (fun _ _ => (intVP .i64 (IntKind.wrap .i64 (119 - ((a_0.f_Rest.length : Int).tmod 64))))),
      .slot 19 100000 100000 (fun _ _ => (intVP .i64 ((IntKind.wrap .i64 (119 - ((a_0.f_Rest.length : Int).tmod 64))).tmod 64))),
      .slot 4 100000 100000 (fun _ _ => (intVP .i64 ((IntKind.wrap .i64 (119 - ((a_0.f_Rest.length : Int).tmod 64))).tmod 64)))] [0, 1, 2, 3, 4, 5, 6] [⟨[0], [], [5], [], some 14⟩, ⟨[5, 3], [], [6], [0], some 15⟩, ⟨[6], [], [7], [0, 1], some 16⟩, ⟨[7], [], [8], [0, 1, 2], some 17⟩, ⟨[8], [], [9], [0, 1, 2, 3], some 18⟩, ⟨[9], [], [10], [0, 1, 2, 3, 4], some 19⟩, ⟨[10], [], [11], [0, 1, 2, 3, 4, 5], some 4⟩] [0, 1, 2, 11, 3, 4] mixed hn hG h (by kernel_rfl) ?_ ?_
  · exact ⟨⟨rfl, fun β => (GOk.plain (op_fieldAddr_lbm (p := p1) (n := 1) 0 8 Tryd.underlying158 rfl Tryd.sizeOf9 (by decide) (opt 0 rfl) rfl) rfl)⟩, ⟨rfl, fun β => (GOk.plain (op_load_lb1 [intsCk .u32 8 a_0.f_Words] [one (intVP .u64 a_0.f_Count)] 1 Tryd.isAgg9 (opt 0 rfl) rfl rfl) rfl)⟩, ⟨rfl, fun β => (GOk.plain (op_len_str Tryd.underlying9 (opt 0 rfl)) rfl)⟩, ⟨rfl, fun β => (GOk.plain (op_bin (bin_rem (by decide)) (opt 0 rfl) (opc (ic (by decide)))) rfl)⟩, ⟨rfl, fun β => (GOk.plain (op_bin bin_sub (opc (ic (by decide))) (opt 0 rfl)) rfl)⟩, ⟨rfl, fun β => (GOk.plain (op_bin (bin_rem (by decide)) (opt 0 rfl) (opc (ic (by decide)))) rfl)⟩, ⟨rfl, fun β => (GOk.plain (op_assign (opt 0 rfl)) rfl)⟩, trivial⟩
  clear h
  intro β a w h
  change SatL c [.slot 1 (lpVP p1 0), .slot 2 (lpVP p2 0), .slot 3 (intVP .u64 (IntKind.wrap .u64 (8 * a_0.f_Count))), .slot 4 (intVP .i64 ((IntKind.wrap .i64 (119 - ((a_0.f_Rest.length : Int).tmod 64))).tmod 64)), .res (lb p1 158 [intsCk .u32 8 a_0.f_Words, one (strVP a_0.f_Rest), one (intVP .u64 a_0.f_Count)]), .res (lb p2 23 [bytesCk 32 (List.replicate 32 0)])] a w at h
  clear β
  show Code.wp Tryd.prog _ _ a w
  refine wp_seq ?_
  refine region_do (n := 63) [.slot 5 0 100000 (fun v1_ _ => (lpVP v1_ 0)),
      .res 0 100000 (fun v1_ _ => (lb (v1_) 135 [bytesCk 8 (List.replicate 8 0)]))] [0, 0] [⟨[], [], [6, 7], [], some 5⟩] [0, 1, 2, 3, 6, 4, 5, 7] mixed hn hG h (by kernel_rfl) ?_ ?_
  · exact ⟨⟨rfl, fun β => (GOk.plain (op_alloc Tryd.zeroValue135 z135) rfl)⟩, trivial⟩
  clear h
  intro β a w h
  change SatL c [.slot 1 (lpVP p1 0), .slot 2 (lpVP p2 0), .slot 3 (intVP .u64 (IntKind.wrap .u64 (8 * a_0.f_Count))), .slot 4 (intVP .i64 ((IntKind.wrap .i64 (119 - ((a_0.f_Rest.length : Int).tmod 64))).tmod 64)), .slot 5 (lpVP (β 0) 0), .res (lb p1 158 [intsCk .u32 8 a_0.f_Words, one (strVP a_0.f_Rest), one (intVP .u64 a_0.f_Count)]), .res (lb p2 23 [bytesCk 32 (List.replicate 32 0)]), .res (lb (β 0) 135 [bytesCk 8 (List.replicate 8 0)])] a w at h
  generalize β 0 = p3 at h
  clear β
  show Code.wp Tryd.prog _ _ a w
  refine wp_seq ?_
  refine wp_seq ?_
  refine region_do (n := 63) [.slot 20 100000 100000 (fun _ _ => (intVP .i64 0))] [0] [⟨[], [], [8], [], some 20⟩] [0, 1, 2, 3, 4, 8, 5, 6, 7] mixed hn hG h (by kernel_rfl) ?_ ?_
  · exact ⟨⟨rfl, fun β => (GOk.plain (op_move (opc (ic (by decide)))) rfl)⟩, trivial⟩
  clear h
  intro β a w h
  change SatL c [.slot 1 (lpVP p1 0), .slot 2 (lpVP p2 0), .slot 3 (intVP .u64 (IntKind.wrap .u64 (8 * a_0.f_Count))), .slot 4 (intVP .i64 ((IntKind.wrap .i64 (119 - ((a_0.f_Rest.length : Int).tmod 64))).tmod 64)), .slot 5 (lpVP p3 0), .slot 20 (intVP .i64 0), .res (lb p1 158 [intsCk .u32 8 a_0.f_Words, one (strVP a_0.f_Rest), one (intVP .u64 a_0.f_Count)]), .res (lb p2 23 [bytesCk 32 (List.replicate 32 0)]), .res (lb p3 135 [bytesCk 8 (List.replicate 8 0)])] a w at h
  clear β
  show Code.wp Tryd.prog _ _ a w
  refine wp_block ?_
  obtain ⟨cr16, hl17, hF⟩ := bind_some hF
  refine wp_mono (wp_loopN (R := (List UInt8)) (S := Int × (List UInt8)) (fun s a w => SatL c [.slot 1 (lpVP p1 0), .slot 2 (lpVP p2 0), .slot 3 (intVP .u64 (IntKind.wrap .u64 (8 * a_0.f_Count))), .slot 4 (intVP .i64 ((IntKind.wrap .i64 (119 - ((a_0.f_Rest.length : Int).tmod 64))).tmod 64)), .slot 5 (lpVP p3 0), .slot 20 (intVP .i64 s.1), .res (lb p1 158 [intsCk .u32 8 a_0.f_Words, one (strVP a_0.f_Rest), one (intVP .u64 a_0.f_Count)]), .res (lb p2 23 [bytesCk 32 (List.replicate 32 0)]), .res (lb p3 135 [bytesCk 8 s.2])] a w) (fun res e a w => match res with | .next s => e = .exit 0 ∧ SatL c [.slot 1 (lpVP p1 0), .slot 2 (lpVP p2 0), .slot 4 (intVP .i64 ((IntKind.wrap .i64 (119 - ((a_0.f_Rest.length : Int).tmod 64))).tmod 64)), .slot 5 (lpVP p3 0), .res (lb p1 158 [intsCk .u32 8 a_0.f_Words, one (strVP a_0.f_Rest), one (intVP .u64 a_0.f_Count)]), .res (lb p2 23 [bytesCk 32 (List.replicate 32 0)]), .res (lb p3 135 [bytesCk 8 s.2])] a w | .ret r => e = .ret ∧ RetOk Tryd.prog Tryd.f98 c (aggVP [bytesCk 32 r]) (fun _ => []) a w) ?_ _ (0, (List.replicate 8 0)) _ _ _ (h.sub [0, 1, 2, 3, 4, 5, 6, 7, 8] (by rfl)) hl17) ?_
  · clear hl17 hF h
    intro s a w o h hF
    obtain ⟨x6, x7⟩ := s
    change sha_State_End.b1 a_0 x6 x7 = some o at hF
    unfold sha_State_End.b1 at hF
    change SatL c [.slot 1 (lpVP p1 0), .slot 2 (lpVP p2 0), .slot 3 (intVP .u64 (IntKind.wrap .u64 (8 * a_0.f_Count))), .slot 4 (intVP .i64 ((IntKind.wrap .i64 (119 - ((a_0.f_Rest.length : Int).tmod 64))).tmod 64)), .slot 5 (lpVP p3 0), .slot 20 (intVP .i64 x6), .res (lb p1 158 [intsCk .u32 8 a_0.f_Words, one (strVP a_0.f_Rest), one (intVP .u64 a_0.f_Count)]), .res (lb p2 23 [bytesCk 32 (List.replicate 32 0)]), .res (lb p3 135 [bytesCk 8 x7])] a w at h
    refine wp_seq ?_
    refine region_do (n := 63) [.slot 21 100000 100000 (fun _ _ => (boolVP (decide (x6 < (8 : Int)))))] [0] [⟨[5], [], [9], [], some 21⟩] [0, 1, 2, 3, 4, 5, 9, 6, 7, 8] mixed hn hG h (by kernel_rfl) ?_ ?_
    · exact ⟨⟨rfl, fun β => (GOk.plain (op_bin bin_lss (opt 0 rfl) (opc (ic (by decide)))) rfl)⟩, trivial⟩
    clear h
    intro β a w h
    change SatL c [.slot 1 (lpVP p1 0), .slot 2 (lpVP p2 0), .slot 3 (intVP .u64 (IntKind.wrap .u64 (8 * a_0.f_Count))), .slot 4 (intVP .i64 ((IntKind.wrap .i64 (119 - ((a_0.f_Rest.length : Int).tmod 64))).tmod 64)), .slot 5 (lpVP p3 0), .slot 20 (intVP .i64 x6), .slot 21 (boolVP (decide (x6 < (8 : Int)))), .res (lb p1 158 [intsCk .u32 8 a_0.f_Words, one (strVP a_0.f_Rest), one (intVP .u64 a_0.f_Count)]), .res (lb p2 23 [bytesCk 32 (List.replicate 32 0)]), .res (lb p3 135 [bytesCk 8 x7])] a w at h
    clear β
    show Code.wp Tryd.prog _ _ a w
    refine wp_seq ?_
    refine cond_L h 6 rfl (fun hb13 => ?_) (fun hb13 => ?_)
    · replace hF := tt_of hb13 hF
      replace h := h.sub [0, 1, 2, 3, 4, 5, 7, 8, 9] (by rfl)
      change SatL c [.slot 1 (lpVP p1 0), .slot 2 (lpVP p2 0), .slot 3 (intVP .u64 (IntKind.wrap .u64 (8 * a_0.f_Count))), .slot 4 (intVP .i64 ((IntKind.wrap .i64 (119 - ((a_0.f_Rest.length : Int).tmod 64))).tmod 64)), .slot 5 (lpVP p3 0), .slot 20 (intVP .i64 x6), .res (lb p1 158 [intsCk .u32 8 a_0.f_Words, one (strVP a_0.f_Rest), one (intVP .u64 a_0.f_Count)]), .res (lb p2 23 [bytesCk 32 (List.replicate 32 0)]), .res (lb p3 135 [bytesCk 8 x7])] a w at h
      refine wp_skip ?_
      show Code.wp Tryd.prog _ _ a w
      refine wp_seq ?_
      refine wp_block ?_
      refine wp_seq ?_
      refine region_do (n := 63) [.slot 22 100000 100000 (fun _ _ => (intVP .i64 x6)),
      .slot 6 100000 100000 (fun _ _ => (intVP .i64 x6))] [0, 1] [⟨[5], [], [9], [], some 22⟩, ⟨[9], [], [10], [0], some 6⟩] [0, 1, 2, 3, 4, 10, 5, 6, 7, 8] mixed hn hG h (by kernel_rfl) ?_ ?_
      · exact ⟨⟨rfl, fun β => (GOk.plain (op_move (opt 0 rfl)) rfl)⟩, ⟨rfl, fun β => (GOk.plain (op_assign (opt 0 rfl)) rfl)⟩, trivial⟩
      clear h
      intro β a w h
      change SatL c [.slot 1 (lpVP p1 0), .slot 2 (lpVP p2 0), .slot 3 (intVP .u64 (IntKind.wrap .u64 (8 * a_0.f_Count))), .slot 4 (intVP .i64 ((IntKind.wrap .i64 (119 - ((a_0.f_Rest.length : Int).tmod 64))).tmod 64)), .slot 5 (lpVP p3 0), .slot 6 (intVP .i64 x6), .slot 20 (intVP .i64 x6), .res (lb p1 158 [intsCk .u32 8 a_0.f_Words, one (strVP a_0.f_Rest), one (intVP .u64 a_0.f_Count)]), .res (lb p2 23 [bytesCk 32 (List.replicate 32 0)]), .res (lb p3 135 [bytesCk 8 x7])] a w at h
      clear β
      show Code.wp Tryd.prog _ _ a w
      obtain ⟨hv14, hF⟩ := ite_some hF
      obtain ⟨hv15, hF⟩ := ite_some hF
      refine region_do (n := 63) [.slot 23 100000 100000 (fun _ _ => (intVP .i64 x6)),
      .slot 24 100000 100000 (fun _ _ => (intVP .u64 (IntKind.wrap .u64 (8 * a_0.f_Count)))),
      .slot 25 100000 100000 (fun _ _ => (intVP .i64 x6)),
      .slot 26 100000 100000 (fun _ _ => (intVP .i64 (IntKind.wrap .i64 (8 * x6)))),
      .slot 27 100000 100000 (fun _ _ => (intVP .i64 (IntKind.wrap .i64 (56 - (IntKind.wrap .i64 (8 * x6)))))),
      .slot 28 100000 100000 (fun _ _ => (intVP .u64 (shr .u64 (IntKind.wrap .u64 (8 * a_0.f_Count)) (IntKind.wrap .i64 (56 - (IntKind.wrap .i64 (8 * x6))))))),
      .slot 29 100000 100000 (fun _ _ => (intVP .u8 (IntKind.wrap .u8 (shr .u64 (IntKind.wrap .u64 (8 * a_0.f_Count)) (IntKind.wrap .i64 (56 - (IntKind.wrap .i64 (8 * x6)))))))),
      .slot 30 100000 100000 (fun _ _ => (lpVP p3 (0 + x6.toNat * 1))),
      .res 100000 100000 (fun _ _ => (lb p3 135 [bytesCk 8 (x7.set x6.toNat (u8of (IntKind.wrap .u8 (shr .u64 (IntKind.wrap .u64 (8 * a_0.f_Count)) (IntKind.wrap .i64 (56 - (IntKind.wrap .i64 (8 * x6))))))))]))] [0, 1, 2, 3, 4, 5, 6, 7, 8] [⟨[5], [], [10], [], some 23⟩, ⟨[2], [], [11], [0], some 24⟩, ⟨[5], [], [12], [0, 1], some 25⟩, ⟨[12], [], [13], [0, 1, 2], some 26⟩, ⟨[13], [], [14], [0, 1, 2, 3], some 27⟩, ⟨[11, 14], [], [15], [0, 1, 2, 3, 4], some 28⟩, ⟨[15], [], [16], [0, 1, 2, 3, 4, 5], some 29⟩, ⟨[4, 10], [], [17], [0, 1, 2, 3, 4, 5, 6], some 30⟩, ⟨[17, 16], [9], [18], [0, 1, 2, 3, 4, 5, 6, 7], none⟩] [0, 1, 2, 3, 4, 6, 7, 8, 18] mixed hn hG h (by kernel_rfl) ?_ ?_
      · exact ⟨⟨rfl, fun β => (GOk.plain (op_move (opt 0 rfl)) rfl)⟩, ⟨rfl, fun β => (GOk.plain (op_move (opt 0 rfl)) rfl)⟩, ⟨rfl, fun β => (GOk.plain (op_move (opt 0 rfl)) rfl)⟩, ⟨rfl, fun β => (GOk.plain (op_bin bin_mul (opc (ic (by decide))) (opt 0 rfl)) rfl)⟩, ⟨rfl, fun β => (GOk.plain (op_bin bin_sub (opc (ic (by decide))) (opt 0 rfl)) rfl)⟩, ⟨rfl, fun β => (GOk.plain (op_bin (bin_shr hv14) (opt 0 rfl) (opt 1 rfl)) rfl)⟩, ⟨rfl, fun β => (GOk.plain (op_convert_int Tryd.underlying114 Tryd.underlying5 (opt 0 rfl)) rfl)⟩, ⟨rfl, fun β => (GOk.plain (op_indexAddr_lb Tryd.underlying135 Tryd.sizeOf5 (opt 0 rfl) (opt 1 rfl) hv15) rfl)⟩, ⟨rfl, fun β => (GOk.plain (op_store_lbB (i := x6) [] [] Tryd.sizeOf5 (opt 0 rfl) (opt 1 rfl) rfl hv15) rfl)⟩, trivial⟩
      clear h
      intro β a w h
      change SatL c [.slot 1 (lpVP p1 0), .slot 2 (lpVP p2 0), .slot 3 (intVP .u64 (IntKind.wrap .u64 (8 * a_0.f_Count))), .slot 4 (intVP .i64 ((IntKind.wrap .i64 (119 - ((a_0.f_Rest.length : Int).tmod 64))).tmod 64)), .slot 5 (lpVP p3 0), .slot 20 (intVP .i64 x6), .res (lb p1 158 [intsCk .u32 8 a_0.f_Words, one (strVP a_0.f_Rest), one (intVP .u64 a_0.f_Count)]), .res (lb p2 23 [bytesCk 32 (List.replicate 32 0)]), .res (lb p3 135 [bytesCk 8 (x7.set x6.toNat (u8of (IntKind.wrap .u8 (shr .u64 (IntKind.wrap .u64 (8 * a_0.f_Count)) (IntKind.wrap .i64 (56 - (IntKind.wrap .i64 (8 * x6))))))))])] a w at h
      clear β
      show Code.wp Tryd.prog _ _ a w
      refine region_do (n := 63) [.slot 31 100000 100000 (fun _ _ => (intVP .i64 (IntKind.wrap .i64 (x6 + 1)))),
      .slot 20 100000 100000 (fun _ _ => (intVP .i64 (IntKind.wrap .i64 (x6 + 1))))] [0, 1] [⟨[5], [], [9], [], some 31⟩, ⟨[9], [5], [10], [0], some 20⟩] [0, 1, 2, 3, 4, 10, 6, 7, 8] mixed hn hG h (by kernel_rfl) ?_ ?_
      · exact ⟨⟨rfl, fun β => (GOk.plain (op_bin bin_add (opt 0 rfl) (opc (ic (by decide)))) rfl)⟩, ⟨rfl, fun β => (GOk.drop _ (GOk.plain (op_move (opt 0 rfl)) rfl))⟩, trivial⟩
      clear h
      intro β a w h
      change SatL c [.slot 1 (lpVP p1 0), .slot 2 (lpVP p2 0), .slot 3 (intVP .u64 (IntKind.wrap .u64 (8 * a_0.f_Count))), .slot 4 (intVP .i64 ((IntKind.wrap .i64 (119 - ((a_0.f_Rest.length : Int).tmod 64))).tmod 64)), .slot 5 (lpVP p3 0), .slot 20 (intVP .i64 (IntKind.wrap .i64 (x6 + 1))), .res (lb p1 158 [intsCk .u32 8 a_0.f_Words, one (strVP a_0.f_Rest), one (intVP .u64 a_0.f_Count)]), .res (lb p2 23 [bytesCk 32 (List.replicate 32 0)]), .res (lb p3 135 [bytesCk 8 (x7.set x6.toNat (u8of (IntKind.wrap .u8 (shr .u64 (IntKind.wrap .u64 (8 * a_0.f_Count)) (IntKind.wrap .i64 (56 - (IntKind.wrap .i64 (8 * x6))))))))])] a w at h
      clear β
      obtain rfl := Option.some.inj hF
      exact ⟨rfl, h.sub [0, 1, 2, 3, 4, 5, 6, 7, 8] (by rfl)⟩
    · replace hF := ff_of hb13 hF
      replace h := h.sub [0, 1, 2, 3, 4, 5, 7, 8, 9] (by rfl)
      change SatL c [.slot 1 (lpVP p1 0), .slot 2 (lpVP p2 0), .slot 3 (intVP .u64 (IntKind.wrap .u64 (8 * a_0.f_Count))), .slot 4 (intVP .i64 ((IntKind.wrap .i64 (119 - ((a_0.f_Rest.length : Int).tmod 64))).tmod 64)), .slot 5 (lpVP p3 0), .slot 20 (intVP .i64 x6), .res (lb p1 158 [intsCk .u32 8 a_0.f_Words, one (strVP a_0.f_Rest), one (intVP .u64 a_0.f_Count)]), .res (lb p2 23 [bytesCk 32 (List.replicate 32 0)]), .res (lb p3 135 [bytesCk 8 x7])] a w at h
      refine wp_exit ?_
      obtain rfl := Option.some.inj hF
      exact ⟨exit_ne _, rfl, h.sub [0, 1, 3, 4, 6, 7, 8] (by rfl)⟩
  · clear hl17
    intro e a w hq
    cases cr16 with
    | ret r18 =>
      obtain ⟨rfl, hq⟩ := hq
      obtain rfl := Option.some.inj hF
      exact ⟨.inl rfl, hq⟩
    | next s19 =>
      obtain ⟨y20, y21⟩ := s19
      obtain ⟨rfl, h⟩ := hq
      change SatL c [.slot 1 (lpVP p1 0), .slot 2 (lpVP p2 0), .slot 4 (intVP .i64 ((IntKind.wrap .i64 (119 - ((a_0.f_Rest.length : Int).tmod 64))).tmod 64)), .slot 5 (lpVP p3 0), .res (lb p1 158 [intsCk .u32 8 a_0.f_Words, one (strVP a_0.f_Rest), one (intVP .u64 a_0.f_Count)]), .res (lb p2 23 [bytesCk 32 (List.replicate 32 0)]), .res (lb p3 135 [bytesCk 8 y21])] a w at h
      refine inBlock_at ?_
      show Code.wp Tryd.prog _ _ a w
      refine wp_seq ?_
      obtain ⟨hv22, hF⟩ := ite_some hF
      obtain ⟨hv23, hF⟩ := ite_some hF
      obtain ⟨hv24, hF⟩ := ite_some hF
      obtain ⟨r25, hr25, hF⟩ := bind_some hF
      refine region_do (n := 63) [.slot 32 100000 100000 (fun _ _ => (aggVP [intsCk .u32 8 a_0.f_Words, one (strVP a_0.f_Rest), one (intVP .u64 a_0.f_Count)])),
      .slot 33 100000 100000 (fun _ _ => (intVP .i64 ((IntKind.wrap .i64 (119 - ((a_0.f_Rest.length : Int).tmod 64))).tmod 64))),
      .slot 34 100000 100000 (fun _ _ => (strVP (Lib.repeatL [0] ((IntKind.wrap .i64 (119 - ((a_0.f_Rest.length : Int).tmod 64))).tmod 64 : Int).toNat))),
      .slot 35 100000 100000 (fun _ _ => (strVP ([128] ++ (Lib.repeatL [0] ((IntKind.wrap .i64 (119 - ((a_0.f_Rest.length : Int).tmod 64))).tmod 64 : Int).toNat)))),
      .slot 36 100000 100000 (fun _ _ => (lslVP p3 (0 + (0 : Int).toNat * 1) ((8 : Int).toNat - (0 : Int).toNat) (8 - (0 : Int).toNat))),
      .slot 37 100000 100000 (fun _ _ => (strVP (y21.take ((8 : Int).toNat - (0 : Int).toNat)))),
      .slot 38 100000 100000 (fun _ _ => (strVP (([128] ++ (Lib.repeatL [0] ((IntKind.wrap .i64 (119 - ((a_0.f_Rest.length : Int).tmod 64))).tmod 64 : Int).toNat)) ++ (y21.take ((8 : Int).toNat - (0 : Int).toNat))))),
      .slot 39 100000 100000 (fun _ _ => (aggVP [intsCk .u32 8 r25.f_Words, one (strVP r25.f_Rest), one (intVP .u64 r25.f_Count)])),
      .res 100000 100000 (fun _ _ => (lb p1 158 [intsCk .u32 8 r25.f_Words, one (strVP r25.f_Rest), one (intVP .u64 r25.f_Count)]))] [0, 1, 2, 3, 4, 5, 6, 7, 8] [⟨[0, 4], [], [7], [], some 32⟩, ⟨[2], [], [8], [], some 33⟩, ⟨[8], [], [9], [1], some 34⟩, ⟨[9], [], [10], [1, 2], some 35⟩, ⟨[3], [], [11], [], some 36⟩, ⟨[11, 6], [], [12], [4], some 37⟩, ⟨[10, 12], [], [13], [1, 2, 3, 4, 5], some 38⟩, ⟨[7, 13], [], [14], [0, 1, 2, 3, 4, 5, 6], some 39⟩, ⟨[0, 14], [4], [15], [0, 1, 2, 3, 4, 5, 6, 7], none⟩] [0, 1, 15, 5] mixed hn hG h (by kernel_rfl) ?_ ?_
      · exact ⟨⟨rfl, fun β => (GOk.plain (op_load_lb [] [intsCk .u32 8 a_0.f_Words, one (strVP a_0.f_Rest), one (intVP .u64 a_0.f_Count)] [] 1 Tryd.isAgg158 Tryd.sizeOf158 (opt 0 rfl) rfl rfl rfl) rfl)⟩, ⟨rfl, fun β => (GOk.plain (op_move (opt 0 rfl)) rfl)⟩, ⟨rfl, fun β => (GOk.plain (op_call Tryd.call103 (repeat_ok hv22) ⟨(opc (sc _ (by decide))), (opt 0 rfl), trivial⟩) rfl)⟩, ⟨rfl, fun β => (GOk.plain (op_bin (bin_sadd hv23) (opc (sc _ (by decide))) (opt 0 rfl)) rfl)⟩, ⟨rfl, fun β => (GOk.plain (op_slice_lb (a := 0) (b := 8) Tryd.underlying135 Tryd.sizeOf5 (opt 0 rfl) rfl rfl (by decide)) rfl)⟩, ⟨rfl, fun β => (GOk.plain (op_str_lsl [] [] 1 Tryd.underlying129 Tryd.underlying5 Tryd.underlying9 (opt 0 rfl) rfl rfl (by decide) (by decide)) rfl)⟩, ⟨rfl, fun β => (GOk.plain (op_bin (bin_sadd hv24) (opt 0 rfl) (opt 1 rfl)) rfl)⟩, ⟨rfl, fun β => (GOk.plain (op_call Tryd.call97 (sha_State_Add_ok hr25) ⟨(opt 0 rfl), (opt 1 rfl), trivial⟩) rfl)⟩, ⟨rfl, fun β => (GOk.plain (op_store_lb [] [intsCk .u32 8 a_0.f_Words, one (strVP a_0.f_Rest), one (intVP .u64 a_0.f_Count)] [] [intsCk .u32 8 r25.f_Words, one (strVP r25.f_Rest), one (intVP .u64 r25.f_Count)] Tryd.sizeOf158 (opt 0 rfl) (opt 1 rfl) (cells_agg _) rfl rfl rfl) rfl)⟩, trivial⟩
      clear h
      intro β a w h
      change SatL c [.slot 1 (lpVP p1 0), .slot 2 (lpVP p2 0), .res (lb p1 158 [intsCk .u32 8 r25.f_Words, one (strVP r25.f_Rest), one (intVP .u64 r25.f_Count)]), .res (lb p2 23 [bytesCk 32 (List.replicate 32 0)])] a w at h
      clear β
      show Code.wp Tryd.prog _ _ a w
      refine wp_seq ?_
      refine region_do (n := 63) [.slot 7 0 100000 (fun v1_ _ => (lpVP v1_ 0)),
      .res 0 100000 (fun v1_ _ => (lb (v1_) 23 [bytesCk 32 (List.replicate 32 0)]))] [0, 0] [⟨[], [], [4, 5], [], some 7⟩] [0, 1, 4, 2, 3, 5] mixed hn hG h (by kernel_rfl) ?_ ?_
      · exact ⟨⟨rfl, fun β => (GOk.plain (op_alloc Tryd.zeroValue23 z23) rfl)⟩, trivial⟩
      clear h
      intro β a w h
      change SatL c [.slot 1 (lpVP p1 0), .slot 2 (lpVP p2 0), .slot 7 (lpVP (β 0) 0), .res (lb p1 158 [intsCk .u32 8 r25.f_Words, one (strVP r25.f_Rest), one (intVP .u64 r25.f_Count)]), .res (lb p2 23 [bytesCk 32 (List.replicate 32 0)]), .res (lb (β 0) 23 [bytesCk 32 (List.replicate 32 0)])] a w at h
      generalize β 0 = p26 at h
      clear β
      show Code.wp Tryd.prog _ _ a w
      refine wp_seq ?_
      refine wp_seq ?_
      refine region_do (n := 63) [.slot 40 100000 100000 (fun _ _ => (lpVP p1 0)),
      .slot 41 100000 100000 (fun _ _ => (aggVP [intsCk .u32 8 r25.f_Words])),
      .slot 42 100000 100000 (fun _ _ => (intVP .i64 0))] [0, 1, 2] [⟨[0], [], [6], [], some 40⟩, ⟨[6, 3], [], [7], [0], some 41⟩, ⟨[], [], [8], [0, 1], some 42⟩] [1, 2, 7, 8, 4, 5] mixed hn hG h (by kernel_rfl) ?_ ?_
      · exact ⟨⟨rfl, fun β => (GOk.plain (op_fieldAddr_lbm (p := p1) (n := 8) 0 0 Tryd.underlying158 rfl Tryd.sizeOf150 (by decide) (opt 0 rfl) rfl) rfl)⟩, ⟨rfl, fun β => (GOk.plain (op_load_lb [] [intsCk .u32 8 r25.f_Words] [one (strVP r25.f_Rest), one (intVP .u64 r25.f_Count)] 1 Tryd.isAgg150 Tryd.sizeOf150 (opt 0 rfl) rfl rfl rfl) rfl)⟩, ⟨rfl, fun β => (GOk.plain (op_move (opc (ic (by decide)))) rfl)⟩, trivial⟩
      clear h
      intro β a w h
      change SatL c [.slot 2 (lpVP p2 0), .slot 7 (lpVP p26 0), .slot 41 (aggVP [intsCk .u32 8 r25.f_Words]), .slot 42 (intVP .i64 0), .res (lb p2 23 [bytesCk 32 (List.replicate 32 0)]), .res (lb p26 23 [bytesCk 32 (List.replicate 32 0)])] a w at h
      clear β
      show Code.wp Tryd.prog _ _ a w
      refine wp_block ?_
      obtain ⟨cr75, hl76, hF⟩ := bind_some hF
      refine wp_mono (wp_loopN (R := (List UInt8)) (S := Int × (List UInt8)) (fun s a w => SatL c [.slot 2 (lpVP p2 0), .slot 7 (lpVP p26 0), .slot 41 (aggVP [intsCk .u32 8 r25.f_Words]), .slot 42 (intVP .i64 s.1), .res (lb p2 23 [bytesCk 32 (List.replicate 32 0)]), .res (lb p26 23 [bytesCk 32 s.2])] a w) (fun res e a w => match res with | .next s => e = .exit 2 ∧ SatL c [.slot 2 (lpVP p2 0), .slot 7 (lpVP p26 0), .res (lb p2 23 [bytesCk 32 (List.replicate 32 0)]), .res (lb p26 23 [bytesCk 32 s.2])] a w | .ret r => e = .ret ∧ RetOk Tryd.prog Tryd.f98 c (aggVP [bytesCk 32 r]) (fun _ => []) a w) ?_ _ (0, (List.replicate 32 0)) _ _ _ (h.sub [0, 1, 2, 3, 4, 5] (by rfl)) hl76) ?_
      · clear hl76 hF h
        intro s a w o h hF
        obtain ⟨x38, x39⟩ := s
        change sha_State_End.b2 r25 x38 x39 = some o at hF
        unfold sha_State_End.b2 at hF
        change SatL c [.slot 2 (lpVP p2 0), .slot 7 (lpVP p26 0), .slot 41 (aggVP [intsCk .u32 8 r25.f_Words]), .slot 42 (intVP .i64 x38), .res (lb p2 23 [bytesCk 32 (List.replicate 32 0)]), .res (lb p26 23 [bytesCk 32 x39])] a w at h
        refine wp_seq ?_
        refine region_do (n := 63) [.slot 43 100000 100000 (fun _ _ => (boolVP (decide (x38 < (8 : Int)))))] [0] [⟨[3], [], [6], [], some 43⟩] [0, 1, 2, 3, 6, 4, 5] mixed hn hG h (by kernel_rfl) ?_ ?_
        · exact ⟨⟨rfl, fun β => (GOk.plain (op_bin bin_lss (opt 0 rfl) (opc (ic (by decide)))) rfl)⟩, trivial⟩
        clear h
        intro β a w h
        change SatL c [.slot 2 (lpVP p2 0), .slot 7 (lpVP p26 0), .slot 41 (aggVP [intsCk .u32 8 r25.f_Words]), .slot 42 (intVP .i64 x38), .slot 43 (boolVP (decide (x38 < (8 : Int)))), .res (lb p2 23 [bytesCk 32 (List.replicate 32 0)]), .res (lb p26 23 [bytesCk 32 x39])] a w at h
        clear β
        show Code.wp Tryd.prog _ _ a w
        refine wp_seq ?_
        refine cond_L h 4 rfl (fun hb54 => ?_) (fun hb54 => ?_)
        · replace hF := tt_of hb54 hF
          replace h := h.sub [0, 1, 2, 3, 5, 6] (by rfl)
          change SatL c [.slot 2 (lpVP p2 0), .slot 7 (lpVP p26 0), .slot 41 (aggVP [intsCk .u32 8 r25.f_Words]), .slot 42 (intVP .i64 x38), .res (lb p2 23 [bytesCk 32 (List.replicate 32 0)]), .res (lb p26 23 [bytesCk 32 x39])] a w at h
          refine wp_skip ?_
          show Code.wp Tryd.prog _ _ a w
          refine wp_seq ?_
          refine wp_block ?_
          refine wp_seq ?_
          obtain ⟨hv55, hF⟩ := ite_some hF
          refine region_do (n := 63) [.slot 44 100000 100000 (fun _ _ => (intVP .i64 x38)),
      .slot 45 100000 100000 (fun _ _ => (intVP .u32 (r25.f_Words.getD x38.toNat 0))),
      .slot 8 100000 100000 (fun _ _ => (intVP .i64 x38)),
      .slot 9 100000 100000 (fun _ _ => (intVP .u32 (r25.f_Words.getD x38.toNat 0)))] [0, 1, 2, 3] [⟨[3], [], [6], [], some 44⟩, ⟨[2, 3], [], [7], [0], some 45⟩, ⟨[6], [], [8], [0, 1], some 8⟩, ⟨[7], [], [9], [0, 1, 2], some 9⟩] [0, 1, 8, 9, 2, 3, 4, 5] mixed hn hG h (by kernel_rfl) ?_ ?_
          · exact ⟨⟨rfl, fun β => (GOk.plain (op_move (opt 0 rfl)) rfl)⟩, ⟨rfl, fun β => (GOk.plain (op_index_aggI Tryd.underlying150 Tryd.sizeOf51 Tryd.isAgg51 (opt 0 rfl) (opt 1 rfl) hv55) rfl)⟩, ⟨rfl, fun β => (GOk.plain (op_assign (opt 0 rfl)) rfl)⟩, ⟨rfl, fun β => (GOk.plain (op_assign (opt 0 rfl)) rfl)⟩, trivial⟩
          clear h
          intro β a w h
          change SatL c [.slot 2 (lpVP p2 0), .slot 7 (lpVP p26 0), .slot 8 (intVP .i64 x38), .slot 9 (intVP .u32 (r25.f_Words.getD x38.toNat 0)), .slot 41 (aggVP [intsCk .u32 8 r25.f_Words]), .slot 42 (intVP .i64 x38), .res (lb p2 23 [bytesCk 32 (List.replicate 32 0)]), .res (lb p26 23 [bytesCk 32 x39])] a w at h
          clear β
          show Code.wp Tryd.prog _ _ a w
          refine wp_seq ?_
          refine region_do (n := 63) [.slot 46 100000 100000 (fun _ _ => (intVP .i64 0))] [0] [⟨[], [], [8], [], some 46⟩] [0, 1, 2, 3, 4, 5, 8, 6, 7] mixed hn hG h (by kernel_rfl) ?_ ?_
          · exact ⟨⟨rfl, fun β => (GOk.plain (op_move (opc (ic (by decide)))) rfl)⟩, trivial⟩
          clear h
          intro β a w h
          change SatL c [.slot 2 (lpVP p2 0), .slot 7 (lpVP p26 0), .slot 8 (intVP .i64 x38), .slot 9 (intVP .u32 (r25.f_Words.getD x38.toNat 0)), .slot 41 (aggVP [intsCk .u32 8 r25.f_Words]), .slot 42 (intVP .i64 x38), .slot 46 (intVP .i64 0), .res (lb p2 23 [bytesCk 32 (List.replicate 32 0)]), .res (lb p26 23 [bytesCk 32 x39])] a w at h
          clear β
          show Code.wp Tryd.prog _ _ a w
          refine wp_block ?_
          obtain ⟨cr69, hl70, hF⟩ := bind_some hF
          refine wp_mono (wp_loopN (R := (List UInt8)) (S := Int × (List UInt8)) (fun s a w => SatL c [.slot 2 (lpVP p2 0), .slot 7 (lpVP p26 0), .slot 8 (intVP .i64 x38), .slot 9 (intVP .u32 (r25.f_Words.getD x38.toNat 0)), .slot 41 (aggVP [intsCk .u32 8 r25.f_Words]), .slot 42 (intVP .i64 x38), .slot 46 (intVP .i64 s.1), .res (lb p2 23 [bytesCk 32 (List.replicate 32 0)]), .res (lb p26 23 [bytesCk 32 s.2])] a w) (fun res e a w => match res with | .next s => e = .exit 4 ∧ SatL c [.slot 2 (lpVP p2 0), .slot 7 (lpVP p26 0), .slot 41 (aggVP [intsCk .u32 8 r25.f_Words]), .slot 42 (intVP .i64 x38), .res (lb p2 23 [bytesCk 32 (List.replicate 32 0)]), .res (lb p26 23 [bytesCk 32 s.2])] a w | .ret r => e = .ret ∧ RetOk Tryd.prog Tryd.f98 c (aggVP [bytesCk 32 r]) (fun _ => []) a w) ?_ _ (0, x39) _ _ _ (h.sub [0, 1, 2, 3, 4, 5, 6, 7, 8] (by rfl)) hl70) ?_
          · clear hl70 hF h
            intro s a w o h hF
            obtain ⟨x59, x60⟩ := s
            change sha_State_End.b3 r25 x38 x59 x60 = some o at hF
            unfold sha_State_End.b3 at hF
            change SatL c [.slot 2 (lpVP p2 0), .slot 7 (lpVP p26 0), .slot 8 (intVP .i64 x38), .slot 9 (intVP .u32 (r25.f_Words.getD x38.toNat 0)), .slot 41 (aggVP [intsCk .u32 8 r25.f_Words]), .slot 42 (intVP .i64 x38), .slot 46 (intVP .i64 x59), .res (lb p2 23 [bytesCk 32 (List.replicate 32 0)]), .res (lb p26 23 [bytesCk 32 x60])] a w at h
            refine wp_seq ?_
            refine region_do (n := 63) [.slot 47 100000 100000 (fun _ _ => (boolVP (decide (x59 < (4 : Int)))))] [0] [⟨[6], [], [9], [], some 47⟩] [0, 1, 2, 3, 4, 5, 6, 9, 7, 8] mixed hn hG h (by kernel_rfl) ?_ ?_
            · exact ⟨⟨rfl, fun β => (GOk.plain (op_bin bin_lss (opt 0 rfl) (opc (ic (by decide)))) rfl)⟩, trivial⟩
            clear h
            intro β a w h
            change SatL c [.slot 2 (lpVP p2 0), .slot 7 (lpVP p26 0), .slot 8 (intVP .i64 x38), .slot 9 (intVP .u32 (r25.f_Words.getD x38.toNat 0)), .slot 41 (aggVP [intsCk .u32 8 r25.f_Words]), .slot 42 (intVP .i64 x38), .slot 46 (intVP .i64 x59), .slot 47 (boolVP (decide (x59 < (4 : Int)))), .res (lb p2 23 [bytesCk 32 (List.replicate 32 0)]), .res (lb p26 23 [bytesCk 32 x60])] a w at h
            clear β
            show Code.wp Tryd.prog _ _ a w
            refine wp_seq ?_
            refine cond_L h 7 rfl (fun hb66 => ?_) (fun hb66 => ?_)
            · replace hF := tt_of hb66 hF
              replace h := h.sub [0, 1, 2, 3, 4, 5, 6, 8, 9] (by rfl)
              change SatL c [.slot 2 (lpVP p2 0), .slot 7 (lpVP p26 0), .slot 8 (intVP .i64 x38), .slot 9 (intVP .u32 (r25.f_Words.getD x38.toNat 0)), .slot 41 (aggVP [intsCk .u32 8 r25.f_Words]), .slot 42 (intVP .i64 x38), .slot 46 (intVP .i64 x59), .res (lb p2 23 [bytesCk 32 (List.replicate 32 0)]), .res (lb p26 23 [bytesCk 32 x60])] a w at h
              refine wp_skip ?_
              show Code.wp Tryd.prog _ _ a w
              refine wp_seq ?_
              refine wp_block ?_
              refine wp_seq ?_
              refine region_do (n := 63) [.slot 48 100000 100000 (fun _ _ => (intVP .i64 x59)),
      .slot 10 100000 100000 (fun _ _ => (intVP .i64 x59))] [0, 1] [⟨[6], [], [9], [], some 48⟩, ⟨[9], [], [10], [0], some 10⟩] [0, 1, 2, 3, 10, 4, 5, 6, 7, 8] mixed hn hG h (by kernel_rfl) ?_ ?_
              · exact ⟨⟨rfl, fun β => (GOk.plain (op_move (opt 0 rfl)) rfl)⟩, ⟨rfl, fun β => (GOk.plain (op_assign (opt 0 rfl)) rfl)⟩, trivial⟩
              clear h
              intro β a w h
              change SatL c [.slot 2 (lpVP p2 0), .slot 7 (lpVP p26 0), .slot 8 (intVP .i64 x38), .slot 9 (intVP .u32 (r25.f_Words.getD x38.toNat 0)), .slot 10 (intVP .i64 x59), .slot 41 (aggVP [intsCk .u32 8 r25.f_Words]), .slot 42 (intVP .i64 x38), .slot 46 (intVP .i64 x59), .res (lb p2 23 [bytesCk 32 (List.replicate 32 0)]), .res (lb p26 23 [bytesCk 32 x60])] a w at h
              clear β
              show Code.wp Tryd.prog _ _ a w
              obtain ⟨hv67, hF⟩ := ite_some hF
              obtain ⟨hv68, hF⟩ := ite_some hF
              refine region_do (n := 63) [.slot 49 100000 100000 (fun _ _ => (intVP .i64 x38)),
      .slot 50 100000 100000 (fun _ _ => (intVP .i64 (IntKind.wrap .i64 (4 * x38)))),
      .slot 51 100000 100000 (fun _ _ => (intVP .i64 x59)),
      .slot 52 100000 100000 (fun _ _ => (intVP .i64 (IntKind.wrap .i64 ((IntKind.wrap .i64 (4 * x38)) + x59)))),
      .slot 53 100000 100000 (fun _ _ => (intVP .u32 (r25.f_Words.getD x38.toNat 0))),
      .slot 54 100000 100000 (fun _ _ => (intVP .i64 x59)),
      .slot 55 100000 100000 (fun _ _ => (intVP .i64 (IntKind.wrap .i64 (8 * x59)))),
      .slot 56 100000 100000 (fun _ _ => (intVP .i64 (IntKind.wrap .i64 (24 - (IntKind.wrap .i64 (8 * x59)))))),
      .slot 57 100000 100000 (fun _ _ => (intVP .u32 (shr .u32 (r25.f_Words.getD x38.toNat 0) (IntKind.wrap .i64 (24 - (IntKind.wrap .i64 (8 * x59))))))),
      .slot 58 100000 100000 (fun _ _ => (intVP .u8 (IntKind.wrap .u8 (shr .u32 (r25.f_Words.getD x38.toNat 0) (IntKind.wrap .i64 (24 - (IntKind.wrap .i64 (8 * x59)))))))),
      .slot 59 100000 100000 (fun _ _ => (lpVP p26 (0 + (IntKind.wrap .i64 ((IntKind.wrap .i64 (4 * x38)) + x59)).toNat * 1))),
      .res 100000 100000 (fun _ _ => (lb p26 23 [bytesCk 32 (x60.set (IntKind.wrap .i64 ((IntKind.wrap .i64 (4 * x38)) + x59)).toNat (u8of (IntKind.wrap .u8 (shr .u32 (r25.f_Words.getD x38.toNat 0) (IntKind.wrap .i64 (24 - (IntKind.wrap .i64 (8 * x59))))))))]))] [0, 1, 2, 3, 4, 5, 6, 7, 8, 9, 10, 11] [⟨[2], [], [10], [], some 49⟩, ⟨[10], [], [11], [0], some 50⟩, ⟨[4], [], [12], [0, 1], some 51⟩, ⟨[11, 12], [], [13], [0, 1, 2], some 52⟩, ⟨[3], [], [14], [0, 1, 2, 3], some 53⟩, ⟨[4], [], [15], [0, 1, 2, 3, 4], some 54⟩, ⟨[15], [], [16], [0, 1, 2, 3, 4, 5], some 55⟩, ⟨[16], [], [17], [0, 1, 2, 3, 4, 5, 6], some 56⟩, ⟨[14, 17], [], [18], [0, 1, 2, 3, 4, 5, 6, 7], some 57⟩, ⟨[18], [], [19], [0, 1, 2, 3, 4, 5, 6, 7, 8], some 58⟩, ⟨[1, 13], [], [20], [0, 1, 2, 3, 4, 5, 6, 7, 8, 9], some 59⟩, ⟨[20, 19], [9], [21], [0, 1, 2, 3, 4, 5, 6, 7, 8, 9, 10], none⟩] [0, 1, 2, 3, 5, 6, 7, 8, 21] mixed hn hG h (by kernel_rfl) ?_ ?_
              · exact ⟨⟨rfl, fun β => (GOk.plain (op_move (opt 0 rfl)) rfl)⟩, ⟨rfl, fun β => (GOk.plain (op_bin bin_mul (opc (ic (by decide))) (opt 0 rfl)) rfl)⟩, ⟨rfl, fun β => (GOk.plain (op_move (opt 0 rfl)) rfl)⟩, ⟨rfl, fun β => (GOk.plain (op_bin bin_add (opt 0 rfl) (opt 1 rfl)) rfl)⟩, ⟨rfl, fun β => (GOk.plain (op_move (opt 0 rfl)) rfl)⟩, ⟨rfl, fun β => (GOk.plain (op_move (opt 0 rfl)) rfl)⟩, ⟨rfl, fun β => (GOk.plain (op_bin bin_mul (opc (ic (by decide))) (opt 0 rfl)) rfl)⟩, ⟨rfl, fun β => (GOk.plain (op_bin bin_sub (opc (ic (by decide))) (opt 0 rfl)) rfl)⟩, ⟨rfl, fun β => (GOk.plain (op_bin (bin_shr hv67) (opt 0 rfl) (opt 1 rfl)) rfl)⟩, ⟨rfl, fun β => (GOk.plain (op_convert_int Tryd.underlying51 Tryd.underlying5 (opt 0 rfl)) rfl)⟩, ⟨rfl, fun β => (GOk.plain (op_indexAddr_lb Tryd.underlying23 Tryd.sizeOf5 (opt 0 rfl) (opt 1 rfl) hv68) rfl)⟩, ⟨rfl, fun β => (GOk.plain (op_store_lbB (i := IntKind.wrap .i64 ((IntKind.wrap .i64 (4 * x38)) + x59)) [] [] Tryd.sizeOf5 (opt 0 rfl) (opt 1 rfl) rfl hv68) rfl)⟩, trivial⟩
              clear h
              intro β a w h
              change SatL c [.slot 2 (lpVP p2 0), .slot 7 (lpVP p26 0), .slot 8 (intVP .i64 x38), .slot 9 (intVP .u32 (r25.f_Words.getD x38.toNat 0)), .slot 41 (aggVP [intsCk .u32 8 r25.f_Words]), .slot 42 (intVP .i64 x38), .slot 46 (intVP .i64 x59), .res (lb p2 23 [bytesCk 32 (List.replicate 32 0)]), .res (lb p26 23 [bytesCk 32 (x60.set (IntKind.wrap .i64 ((IntKind.wrap .i64 (4 * x38)) + x59)).toNat (u8of (IntKind.wrap .u8 (shr .u32 (r25.f_Words.getD x38.toNat 0) (IntKind.wrap .i64 (24 - (IntKind.wrap .i64 (8 * x59))))))))])] a w at h
              clear β
              show Code.wp Tryd.prog _ _ a w
              refine region_do (n := 63) [.slot 60 100000 100000 (fun _ _ => (intVP .i64 (IntKind.wrap .i64 (x59 + 1)))),
      .slot 46 100000 100000 (fun _ _ => (intVP .i64 (IntKind.wrap .i64 (x59 + 1))))] [0, 1] [⟨[6], [], [9], [], some 60⟩, ⟨[9], [6], [10], [0], some 46⟩] [0, 1, 2, 3, 4, 5, 10, 7, 8] mixed hn hG h (by kernel_rfl) ?_ ?_
              · exact ⟨⟨rfl, fun β => (GOk.plain (op_bin bin_add (opt 0 rfl) (opc (ic (by decide)))) rfl)⟩, ⟨rfl, fun β => (GOk.drop _ (GOk.plain (op_move (opt 0 rfl)) rfl))⟩, trivial⟩
              clear h
              intro β a w h
              change SatL c [.slot 2 (lpVP p2 0), .slot 7 (lpVP p26 0), .slot 8 (intVP .i64 x38), .slot 9 (intVP .u32 (r25.f_Words.getD x38.toNat 0)), .slot 41 (aggVP [intsCk .u32 8 r25.f_Words]), .slot 42 (intVP .i64 x38), .slot 46 (intVP .i64 (IntKind.wrap .i64 (x59 + 1))), .res (lb p2 23 [bytesCk 32 (List.replicate 32 0)]), .res (lb p26 23 [bytesCk 32 (x60.set (IntKind.wrap .i64 ((IntKind.wrap .i64 (4 * x38)) + x59)).toNat (u8of (IntKind.wrap .u8 (shr .u32 (r25.f_Words.getD x38.toNat 0) (IntKind.wrap .i64 (24 - (IntKind.wrap .i64 (8 * x59))))))))])] a w at h
              clear β
              obtain rfl := Option.some.inj hF
              exact ⟨rfl, h.sub [0, 1, 2, 3, 4, 5, 6, 7, 8] (by rfl)⟩
            · replace hF := ff_of hb66 hF
              replace h := h.sub [0, 1, 2, 3, 4, 5, 6, 8, 9] (by rfl)
              change SatL c [.slot 2 (lpVP p2 0), .slot 7 (lpVP p26 0), .slot 8 (intVP .i64 x38), .slot 9 (intVP .u32 (r25.f_Words.getD x38.toNat 0)), .slot 41 (aggVP [intsCk .u32 8 r25.f_Words]), .slot 42 (intVP .i64 x38), .slot 46 (intVP .i64 x59), .res (lb p2 23 [bytesCk 32 (List.replicate 32 0)]), .res (lb p26 23 [bytesCk 32 x60])] a w at h
              refine wp_exit ?_
              obtain rfl := Option.some.inj hF
              exact ⟨exit_ne _, rfl, h.sub [0, 1, 4, 5, 7, 8] (by rfl)⟩
          · clear hl70
            intro e a w hq
            cases cr69 with
            | ret r71 =>
              obtain ⟨rfl, hq⟩ := hq
              obtain rfl := Option.some.inj hF
              exact ⟨ret_ne, rfl, hq⟩
            | next s72 =>
              obtain ⟨y73, y74⟩ := s72
              obtain ⟨rfl, h⟩ := hq
              change SatL c [.slot 2 (lpVP p2 0), .slot 7 (lpVP p26 0), .slot 41 (aggVP [intsCk .u32 8 r25.f_Words]), .slot 42 (intVP .i64 x38), .res (lb p2 23 [bytesCk 32 (List.replicate 32 0)]), .res (lb p26 23 [bytesCk 32 y74])] a w at h
              refine inBlock_at ?_
              show Code.wp Tryd.prog _ _ a w
              refine region_do (n := 63) [.slot 61 100000 100000 (fun _ _ => (intVP .i64 (IntKind.wrap .i64 (x38 + 1)))),
      .slot 42 100000 100000 (fun _ _ => (intVP .i64 (IntKind.wrap .i64 (x38 + 1))))] [0, 1] [⟨[3], [], [6], [], some 61⟩, ⟨[6], [3], [7], [0], some 42⟩] [0, 1, 2, 7, 4, 5] mixed hn hG h (by kernel_rfl) ?_ ?_
              · exact ⟨⟨rfl, fun β => (GOk.plain (op_bin bin_add (opt 0 rfl) (opc (ic (by decide)))) rfl)⟩, ⟨rfl, fun β => (GOk.drop _ (GOk.plain (op_move (opt 0 rfl)) rfl))⟩, trivial⟩
              clear h
              intro β a w h
              change SatL c [.slot 2 (lpVP p2 0), .slot 7 (lpVP p26 0), .slot 41 (aggVP [intsCk .u32 8 r25.f_Words]), .slot 42 (intVP .i64 (IntKind.wrap .i64 (x38 + 1))), .res (lb p2 23 [bytesCk 32 (List.replicate 32 0)]), .res (lb p26 23 [bytesCk 32 y74])] a w at h
              clear β
              obtain rfl := Option.some.inj hF
              exact ⟨rfl, h.sub [0, 1, 2, 3, 4, 5] (by rfl)⟩
        · replace hF := ff_of hb54 hF
          replace h := h.sub [0, 1, 2, 3, 5, 6] (by rfl)
          change SatL c [.slot 2 (lpVP p2 0), .slot 7 (lpVP p26 0), .slot 41 (aggVP [intsCk .u32 8 r25.f_Words]), .slot 42 (intVP .i64 x38), .res (lb p2 23 [bytesCk 32 (List.replicate 32 0)]), .res (lb p26 23 [bytesCk 32 x39])] a w at h
          refine wp_exit ?_
          obtain rfl := Option.some.inj hF
          exact ⟨exit_ne _, rfl, h.sub [0, 1, 4, 5] (by rfl)⟩
      · clear hl76
        intro e a w hq
        cases cr75 with
        | ret r77 =>
          obtain ⟨rfl, hq⟩ := hq
          obtain rfl := Option.some.inj hF
          exact ⟨.inl rfl, hq⟩
        | next s78 =>
          obtain ⟨y79, y80⟩ := s78
          obtain ⟨rfl, h⟩ := hq
          change SatL c [.slot 2 (lpVP p2 0), .slot 7 (lpVP p26 0), .res (lb p2 23 [bytesCk 32 (List.replicate 32 0)]), .res (lb p26 23 [bytesCk 32 y80])] a w at h
          refine inBlock_at ?_
          show Code.wp Tryd.prog _ _ a w
          refine wp_seq ?_
          refine region_do (n := 63) [.slot 62 100000 100000 (fun _ _ => (aggVP [bytesCk 32 y80])),
      .res 100000 100000 (fun _ _ => (lb p2 23 [bytesCk 32 y80]))] [0, 1] [⟨[1, 3], [], [4], [], some 62⟩, ⟨[0, 4], [2], [5], [0], none⟩] [0, 5] mixed hn hG h (by kernel_rfl) ?_ ?_
          · exact ⟨⟨rfl, fun β => (GOk.plain (op_load_lb [] [bytesCk 32 y80] [] 1 Tryd.isAgg23 Tryd.sizeOf23 (opt 0 rfl) rfl rfl rfl) rfl)⟩, ⟨rfl, fun β => (GOk.plain (op_store_lb [] [bytesCk 32 (List.replicate 32 0)] [] [bytesCk 32 y80] Tryd.sizeOf23 (opt 0 rfl) (opt 1 rfl) (cells_agg _) rfl rfl rfl) rfl)⟩, trivial⟩
          clear h
          intro β a w h
          change SatL c [.slot 2 (lpVP p2 0), .res (lb p2 23 [bytesCk 32 y80])] a w at h
          clear β
          show Code.wp Tryd.prog _ _ a w
          refine wp_ret ?_
          obtain rfl := Option.some.inj hF
          exact ⟨.inl rfl, ret1 h Tryd.results98 (r_cell 0 1 rfl rfl Tryd.isAgg23 Tryd.sizeOf23 rfl) [] [] rfl rfl rfl⟩

def sha_Sum.b1 (a_0 : List (List UInt8)) (x7 : Int) (x8 : S_sha_State) : Option (Flow (List UInt8) (Int × S_sha_State)) := (if (decide (x7 < (a_0.length : Int))) = true then (if (0 : Int) ≤ x7 ∧ x7 < a_0.length then ((sha_State_Add x8 (a_0.getD x7.toNat default)).bind fun r16 => some (.cont (IntKind.wrap .i64 (x7 + 1), r16))) else none) else some (.brk (x7, x8)))
def sha_Sum (a_0 : List (List UInt8)) : Option (List UInt8) := ((sha_Begin).bind fun r2 => ((loopN (fun s : Int × S_sha_State => sha_Sum.b1 a_0 s.1 s.2) (((a_0.length : Int) - 0 : Int).toNat + 2) (0, r2)).bind fun cr => match cr with | .ret r => some r | .next (y21, y22) => ((sha_State_End y22).bind fun r23 => some r23)))
theorem sha_Sum_ok {a_0 : List (List UInt8)} {r : (List UInt8)} (hF : sha_Sum a_0 = some r) : CallOk Tryd.prog KG 81 [(slVP strC a_0)] [] (fun _ => []) (aggVP [bytesCk 32 r]) := by
  refine CallOk.intro 19 Tryd.func81 rfl Tryd.ntmps81 (Nat.le_of_ble_eq_true rfl) ?_
  intro c a w hG hn h
  unfold sha_Sum at hF
  change SatL c [.slot 0 (slVP strC a_0)] a w at h
  refine wp_seq ?_
  refine region_do (n := 19) [.slot 2 0 100000 (fun v1_ _ => (lpVP v1_ 0)),
      .res 0 100000 (fun v1_ _ => (lb (v1_) 23 [bytesCk 32 (List.replicate 32 0)]))] [0, 0] [⟨[], [], [1, 2], [], some 2⟩] [0, 1, 2] mixed hn hG h (by kernel_rfl) ?_ ?_
  · exact ⟨⟨rfl, fun β => (GOk.plain (op_alloc Tryd.zeroValue23 z23) rfl)⟩, trivial⟩
  clear h
  intro β a w h
  change SatL c [.slot 0 (slVP strC a_0), .slot 2 (lpVP (β 0) 0), .res (lb (β 0) 23 [bytesCk 32 (List.replicate 32 0)])] a w at h
  generalize β 0 = p1 at h
  clear β
  show Code.wp Tryd.prog _ _ a w
  refine wp_seq ?_
  obtain ⟨r2, hr2, hF⟩ := bind_some hF
  refine region_do (n := 19) [.slot 6 100000 100000 (fun _ _ => (aggVP [intsCk .u32 8 r2.f_Words, one (strVP r2.f_Rest), one (intVP .u64 r2.f_Count)])),
      .slot 3 1 100000 (fun v1_ _ => (lpVP v1_ 0)),
      .res 1 100000 (fun v1_ _ => (lb (v1_) 158 [intsCk .u32 8 ((S_sha_State.mk (List.replicate 8 0) [] (0 : Int)).f_Words), one (strVP ((S_sha_State.mk (List.replicate 8 0) [] (0 : Int)).f_Rest)), one (intVP .u64 ((S_sha_State.mk (List.replicate 8 0) [] (0 : Int)).f_Count))])),
      .res 1 100000 (fun v1_ _ => (lb (v1_) 158 [intsCk .u32 8 r2.f_Words, one (strVP r2.f_Rest), one (intVP .u64 r2.f_Count)]))] [0, 1, 1, 2] [⟨[], [], [3], [], some 6⟩, ⟨[], [], [4, 5], [0], some 3⟩, ⟨[4, 3], [5], [6], [0, 1], none⟩] [0, 1, 4, 2, 6] mixed hn hG h (by kernel_rfl) ?_ ?_
  · exact ⟨⟨rfl, fun β => (GOk.plain (op_call Tryd.call96 (sha_Begin_ok hr2) trivial) rfl)⟩, ⟨rfl, fun β => (GOk.plain (op_alloc Tryd.zeroValue158 z158) rfl)⟩, ⟨rfl, fun β => (GOk.plain (op_store_lb [] [intsCk .u32 8 ((S_sha_State.mk (List.replicate 8 0) [] (0 : Int)).f_Words), one (strVP ((S_sha_State.mk (List.replicate 8 0) [] (0 : Int)).f_Rest)), one (intVP .u64 ((S_sha_State.mk (List.replicate 8 0) [] (0 : Int)).f_Count))] [] [intsCk .u32 8 r2.f_Words, one (strVP r2.f_Rest), one (intVP .u64 r2.f_Count)] Tryd.sizeOf158 (opt 0 rfl) (opt 1 rfl) (cells_agg _) rfl rfl rfl) rfl)⟩, trivial⟩
  clear h
  intro β a w h
  change SatL c [.slot 0 (slVP strC a_0), .slot 2 (lpVP p1 0), .slot 3 (lpVP (β 1) 0), .res (lb p1 23 [bytesCk 32 (List.replicate 32 0)]), .res (lb (β 1) 158 [intsCk .u32 8 r2.f_Words, one (strVP r2.f_Rest), one (intVP .u64 r2.f_Count)])] a w at h
  generalize β 1 = p3 at h
  clear β
  show Code.wp Tryd.prog _ _ a w
  refine wp_seq ?_
  refine wp_seq ?_
  refine region_do (n := 19) [.slot 7 100000 100000 (fun _ _ => (slVP strC a_0)),
      .slot 8 100000 100000 (fun _ _ => (intVP .i64 (a_0.length : Int))),
      .slot 9 100000 100000 (fun _ _ => (intVP .i64 0))] [0, 1, 2] [⟨[0], [], [5], [], some 7⟩, ⟨[5], [], [6], [0], some 8⟩, ⟨[], [], [7], [0, 1], some 9⟩] [1, 2, 5, 6, 7, 3, 4] mixed hn hG h (by kernel_rfl) ?_ ?_
  · exact ⟨⟨rfl, fun β => (GOk.plain (op_move (opt 0 rfl)) rfl)⟩, ⟨rfl, fun β => (GOk.plain (op_len_sl Tryd.underlying101 (opt 0 rfl)) rfl)⟩, ⟨rfl, fun β => (GOk.plain (op_move (opc (ic (by decide)))) rfl)⟩, trivial⟩
  clear h
  intro β a w h
  change SatL c [.slot 2 (lpVP p1 0), .slot 3 (lpVP p3 0), .slot 7 (slVP strC a_0), .slot 8 (intVP .i64 (a_0.length : Int)), .slot 9 (intVP .i64 0), .res (lb p1 23 [bytesCk 32 (List.replicate 32 0)]), .res (lb p3 158 [intsCk .u32 8 r2.f_Words, one (strVP r2.f_Rest), one (intVP .u64 r2.f_Count)])] a w at h
  clear β
  show Code.wp Tryd.prog _ _ a w
  refine wp_block ?_
  obtain ⟨cr17, hl18, hF⟩ := bind_some hF
  refine wp_mono (wp_loopN (R := (List UInt8)) (S := Int × S_sha_State) (fun s a w => SatL c [.slot 2 (lpVP p1 0), .slot 3 (lpVP p3 0), .slot 7 (slVP strC a_0), .slot 8 (intVP .i64 (a_0.length : Int)), .slot 9 (intVP .i64 s.1), .res (lb p1 23 [bytesCk 32 (List.replicate 32 0)]), .res (lb p3 158 [intsCk .u32 8 s.2.f_Words, one (strVP s.2.f_Rest), one (intVP .u64 s.2.f_Count)])] a w) (fun res e a w => match res with | .next s => e = .exit 0 ∧ SatL c [.slot 2 (lpVP p1 0), .slot 3 (lpVP p3 0), .res (lb p1 23 [bytesCk 32 (List.replicate 32 0)]), .res (lb p3 158 [intsCk .u32 8 s.2.f_Words, one (strVP s.2.f_Rest), one (intVP .u64 s.2.f_Count)])] a w | .ret r => e = .ret ∧ RetOk Tryd.prog Tryd.f81 c (aggVP [bytesCk 32 r]) (fun _ => []) a w) ?_ _ (0, r2) _ _ _ (h.sub [0, 1, 2, 3, 4, 5, 6] (by rfl)) hl18) ?_
  · clear hl18 hF h
    intro s a w o h hF
    obtain ⟨x7, x8⟩ := s
    change sha_Sum.b1 a_0 x7 x8 = some o at hF
    unfold sha_Sum.b1 at hF
    change SatL c [.slot 2 (lpVP p1 0), .slot 3 (lpVP p3 0), .slot 7 (slVP strC a_0), .slot 8 (intVP .i64 (a_0.length : Int)), .slot 9 (intVP .i64 x7), .res (lb p1 23 [bytesCk 32 (List.replicate 32 0)]), .res (lb p3 158 [intsCk .u32 8 x8.f_Words, one (strVP x8.f_Rest), one (intVP .u64 x8.f_Count)])] a w at h
    refine wp_seq ?_
    refine region_do (n := 19) [.slot 10 100000 100000 (fun _ _ => (boolVP (decide (x7 < (a_0.length : Int)))))] [0] [⟨[4, 3], [], [7], [], some 10⟩] [0, 1, 2, 3, 4, 7, 5, 6] mixed hn hG h (by kernel_rfl) ?_ ?_
    · exact ⟨⟨rfl, fun β => (GOk.plain (op_bin bin_lss (opt 0 rfl) (opt 1 rfl)) rfl)⟩, trivial⟩
    clear h
    intro β a w h
    change SatL c [.slot 2 (lpVP p1 0), .slot 3 (lpVP p3 0), .slot 7 (slVP strC a_0), .slot 8 (intVP .i64 (a_0.length : Int)), .slot 9 (intVP .i64 x7), .slot 10 (boolVP (decide (x7 < (a_0.length : Int)))), .res (lb p1 23 [bytesCk 32 (List.replicate 32 0)]), .res (lb p3 158 [intsCk .u32 8 x8.f_Words, one (strVP x8.f_Rest), one (intVP .u64 x8.f_Count)])] a w at h
    clear β
    show Code.wp Tryd.prog _ _ a w
    refine wp_seq ?_
    refine cond_L h 5 rfl (fun hb14 => ?_) (fun hb14 => ?_)
    · replace hF := tt_of hb14 hF
      replace h := h.sub [0, 1, 2, 3, 4, 6, 7] (by rfl)
      change SatL c [.slot 2 (lpVP p1 0), .slot 3 (lpVP p3 0), .slot 7 (slVP strC a_0), .slot 8 (intVP .i64 (a_0.length : Int)), .slot 9 (intVP .i64 x7), .res (lb p1 23 [bytesCk 32 (List.replicate 32 0)]), .res (lb p3 158 [intsCk .u32 8 x8.f_Words, one (strVP x8.f_Rest), one (intVP .u64 x8.f_Count)])] a w at h
      refine wp_skip ?_
      show Code.wp Tryd.prog _ _ a w
      refine wp_seq ?_
      refine wp_block ?_
      refine wp_seq ?_
      obtain ⟨hv15, hF⟩ := ite_some hF
      refine region_do (n := 19) [.slot 11 100000 100000 (fun _ _ => (ppVP [one (strVP (a_0.getD x7.toNat default))])),
      .slot 12 100000 100000 (fun _ _ => (strVP (a_0.getD x7.toNat default))),
      .slot 5 100000 100000 (fun _ _ => (strVP (a_0.getD x7.toNat default)))] [0, 1, 2] [⟨[2, 4], [], [7], [], some 11⟩, ⟨[7], [], [8], [0], some 12⟩, ⟨[8], [], [9], [0, 1], some 5⟩] [0, 1, 9, 2, 3, 4, 5, 6] mixed hn hG h (by kernel_rfl) ?_ ?_
      · exact ⟨⟨rfl, fun β => (GOk.plain (op_indexAddr_sl Tryd.underlying101 Tryd.sizeOf9 lens_strC (opt 0 rfl) (opt 1 rfl) hv15) rfl)⟩, ⟨rfl, fun β => (GOk.plain (op_load_pp1 [] Tryd.isAgg9 (opt 0 rfl)) rfl)⟩, ⟨rfl, fun β => (GOk.plain (op_assign (opt 0 rfl)) rfl)⟩, trivial⟩
      clear h
      intro β a w h
      change SatL c [.slot 2 (lpVP p1 0), .slot 3 (lpVP p3 0), .slot 5 (strVP (a_0.getD x7.toNat default)), .slot 7 (slVP strC a_0), .slot 8 (intVP .i64 (a_0.length : Int)), .slot 9 (intVP .i64 x7), .res (lb p1 23 [bytesCk 32 (List.replicate 32 0)]), .res (lb p3 158 [intsCk .u32 8 x8.f_Words, one (strVP x8.f_Rest), one (intVP .u64 x8.f_Count)])] a w at h
      clear β
      show Code.wp Tryd.prog _ _ a w
      obtain ⟨r16, hr16, hF⟩ := bind_some hF
      refine region_do (n := 19) [.slot 13 100000 100000 (fun _ _ => (aggVP [intsCk .u32 8 x8.f_Words, one (strVP x8.f_Rest), one (intVP .u64 x8.f_Count)])),
      .slot 14 100000 100000 (fun _ _ => (strVP (a_0.getD x7.toNat default))),
      .slot 15 100000 100000 (fun _ _ => (aggVP [intsCk .u32 8 r16.f_Words, one (strVP r16.f_Rest), one (intVP .u64 r16.f_Count)])),
      .res 100000 100000 (fun _ _ => (lb p3 158 [intsCk .u32 8 r16.f_Words, one (strVP r16.f_Rest), one (intVP .u64 r16.f_Count)]))] [0, 1, 2, 3] [⟨[1, 7], [], [8], [], some 13⟩, ⟨[2], [], [9], [0], some 14⟩, ⟨[8, 9], [], [10], [0, 1], some 15⟩, ⟨[1, 10], [7], [11], [0, 1, 2], none⟩] [0, 1, 3, 4, 5, 6, 11] mixed hn hG h (by kernel_rfl) ?_ ?_
      · exact ⟨⟨rfl, fun β => (GOk.plain (op_load_lb [] [intsCk .u32 8 x8.f_Words, one (strVP x8.f_Rest), one (intVP .u64 x8.f_Count)] [] 1 Tryd.isAgg158 Tryd.sizeOf158 (opt 0 rfl) rfl rfl rfl) rfl)⟩, ⟨rfl, fun β => (GOk.plain (op_move (opt 0 rfl)) rfl)⟩, ⟨rfl, fun β => (GOk.plain (op_call Tryd.call97 (sha_State_Add_ok hr16) ⟨(opt 0 rfl), (opt 1 rfl), trivial⟩) rfl)⟩, ⟨rfl, fun β => (GOk.plain (op_store_lb [] [intsCk .u32 8 x8.f_Words, one (strVP x8.f_Rest), one (intVP .u64 x8.f_Count)] [] [intsCk .u32 8 r16.f_Words, one (strVP r16.f_Rest), one (intVP .u64 r16.f_Count)] Tryd.sizeOf158 (opt 0 rfl) (opt 1 rfl) (cells_agg _) rfl rfl rfl) rfl)⟩, trivial⟩
      clear h
      intro β a w h
      change SatL c [.slot 2 (lpVP p1 0), .slot 3 (lpVP p3 0), .slot 7 (slVP strC a_0), .slot 8 (intVP .i64 (a_0.length : Int)), .slot 9 (intVP .i64 x7), .res (lb p1 23 [bytesCk 32 (List.replicate 32 0)]), .res (lb p3 158 [intsCk .u32 8 r16.f_Words, one (strVP r16.f_Rest), one (intVP .u64 r16.f_Count)])] a w at h
      clear β
      show Code.wp Tryd.prog _ _ a w
      refine region_do (n := 19) [.slot 16 100000 100000 (fun _ _ => (intVP .i64 (IntKind.wrap .i64 (x7 + 1)))),
      .slot 9 100000 100000 (fun _ _ => (intVP .i64 (IntKind.wrap .i64 (x7 + 1))))] [0, 1] [⟨[4], [], [7], [], some 16⟩, ⟨[7], [4], [8], [0], some 9⟩] [0, 1, 2, 3, 8, 5, 6] mixed hn hG h (by kernel_rfl) ?_ ?_
      · exact ⟨⟨rfl, fun β => (GOk.plain (op_bin bin_add (opt 0 rfl) (opc (ic (by decide)))) rfl)⟩, ⟨rfl, fun β => (GOk.drop _ (GOk.plain (op_move (opt 0 rfl)) rfl))⟩, trivial⟩
      clear h
      intro β a w h
      change SatL c [.slot 2 (lpVP p1 0), .slot 3 (lpVP p3 0), .slot 7 (slVP strC a_0), .slot 8 (intVP .i64 (a_0.length : Int)), .slot 9 (intVP .i64 (IntKind.wrap .i64 (x7 + 1))), .res (lb p1 23 [bytesCk 32 (List.replicate 32 0)]), .res (lb p3 158 [intsCk .u32 8 r16.f_Words, one (strVP r16.f_Rest), one (intVP .u64 r16.f_Count)])] a w at h
      clear β
      obtain rfl := Option.some.inj hF
      exact ⟨rfl, h.sub [0, 1, 2, 3, 4, 5, 6] (by rfl)⟩
    · replace hF := ff_of hb14 hF
      replace h := h.sub [0, 1, 2, 3, 4, 6, 7] (by rfl)
      change SatL c [.slot 2 (lpVP p1 0), .slot 3 (lpVP p3 0), .slot 7 (slVP strC a_0), .slot 8 (intVP .i64 (a_0.length : Int)), .slot 9 (intVP .i64 x7), .res (lb p1 23 [bytesCk 32 (List.replicate 32 0)]), .res (lb p3 158 [intsCk .u32 8 x8.f_Words, one (strVP x8.f_Rest), one (intVP .u64 x8.f_Count)])] a w at h
      refine wp_exit ?_
      obtain rfl := Option.some.inj hF
      exact ⟨exit_ne _, rfl, h.sub [0, 1, 5, 6] (by rfl)⟩
  · clear hl18
    intro e a w hq
    cases cr17 with
    | ret r19 =>
      obtain ⟨rfl, hq⟩ := hq
      obtain rfl := Option.some.inj hF
      exact ⟨.inl rfl, hq⟩
    | next s20 =>
      obtain ⟨y21, y22⟩ := s20
      obtain ⟨rfl, h⟩ := hq
      change SatL c [.slot 2 (lpVP p1 0), .slot 3 (lpVP p3 0), .res (lb p1 23 [bytesCk 32 (List.replicate 32 0)]), .res (lb p3 158 [intsCk .u32 8 y22.f_Words, one (strVP y22.f_Rest), one (intVP .u64 y22.f_Count)])] a w at h
      refine inBlock_at ?_
      show Code.wp Tryd.prog _ _ a w
      refine wp_seq ?_
      obtain ⟨r23, hr23, hF⟩ := bind_some hF
      refine region_do (n := 19) [.slot 17 100000 100000 (fun _ _ => (aggVP [intsCk .u32 8 y22.f_Words, one (strVP y22.f_Rest), one (intVP .u64 y22.f_Count)])),
      .slot 18 100000 100000 (fun _ _ => (aggVP [bytesCk 32 r23])),
      .res 100000 100000 (fun _ _ => (lb p1 23 [bytesCk 32 r23]))] [0, 1, 2] [⟨[1, 3], [], [4], [], some 17⟩, ⟨[4], [], [5], [0], some 18⟩, ⟨[0, 5], [2], [6], [0, 1], none⟩] [0, 6] mixed hn hG h (by kernel_rfl) ?_ ?_
      · exact ⟨⟨rfl, fun β => (GOk.plain (op_load_lb [] [intsCk .u32 8 y22.f_Words, one (strVP y22.f_Rest), one (intVP .u64 y22.f_Count)] [] 1 Tryd.isAgg158 Tryd.sizeOf158 (opt 0 rfl) rfl rfl rfl) rfl)⟩, ⟨rfl, fun β => (GOk.plain (op_call Tryd.call98 (sha_State_End_ok hr23) ⟨(opt 0 rfl), trivial⟩) rfl)⟩, ⟨rfl, fun β => (GOk.plain (op_store_lb [] [bytesCk 32 (List.replicate 32 0)] [] [bytesCk 32 r23] Tryd.sizeOf23 (opt 0 rfl) (opt 1 rfl) (cells_agg _) rfl rfl rfl) rfl)⟩, trivial⟩
      clear h
      intro β a w h
      change SatL c [.slot 2 (lpVP p1 0), .res (lb p1 23 [bytesCk 32 r23])] a w at h
      clear β
      show Code.wp Tryd.prog _ _ a w
      refine wp_ret ?_
      obtain rfl := Option.some.inj hF
      exact ⟨.inl rfl, ret1 h Tryd.results81 (r_cell 0 1 rfl rfl Tryd.isAgg23 Tryd.sizeOf23 rfl) [] [] rfl rfl rfl⟩
end Go.Proofs.YtamnmljgcmbliaaDoor
