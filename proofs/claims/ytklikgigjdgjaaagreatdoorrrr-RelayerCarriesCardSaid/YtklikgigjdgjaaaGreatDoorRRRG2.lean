/- The functions' Lean twins and contracts, printed by this session's own program: part 2. -/
import Derived.Test.YtklikgigjdgjaaaGreatDoorRRRG1
namespace Go.Proofs.YtklikgigjdgjaaaGreatDoorRRR
open Go Go.RowKit Go.Proofs
set_option maxRecDepth 100000
set_option maxHeartbeats 4000000
set_option linter.unusedVariables false
def relayer_New (a_0 : Int) : Option S_relayer_Relayer := some (S_relayer_Relayer.mk a_0 [])
theorem relayer_New_ok {a_0 : Int} {r : S_relayer_Relayer} (hF : relayer_New a_0 = some r) : CallOk Tryz.prog KG 11 [(intVP .u32 a_0)] [] (fun _ => []) (aggVP [one (intVP .u32 r.f_Home), one (strVP r.f_Disk)]) := by
  refine CallOk.intro 5 Tryz.func11 rfl Tryz.ntmps11 (Nat.le_of_ble_eq_true rfl) ?_
  intro c a w hG hn h
  unfold relayer_New at hF
  change SatL c [.slot 0 (intVP .u32 a_0)] a w at h
  refine regS mixed hn hG h [0, 501, 500] (ob [] (op_alloc Tryz.zeroValue53 z53) .nil) fun b1 a w h => ?_
  refine regS mixed hn hG h [1, 500] (ov [0] (op_move q0) <| ov [500] (op_build [(0, .tmp 3)] rfl bu53 z53 ⟨[], [one (intVP .u32 (0 : Int))], [one (strVP [])], [one (intVP .u32 a_0)], _, rfl, rfl, rfl, q0, (cells_one (one_int _ _)), rfl⟩) <| ou [1, 500] 2 (op_store_w Tryz.sizeOf53 q0 q1 (cells_agg _)) .nil) fun _ a w h => ?_
  refine wp_ret ?_
  obtain rfl := Option.some.inj hF
  exact ⟨.inl rfl, ret1 h Tryz.results11 (r_cell 0 1 rfl rfl Tryz.isAgg53 Tryz.sizeOf53 rfl) [] [] rfl rfl rfl⟩

def strings_Builder_String (L_0 : O_Bld) : Option (List UInt8) := (if L_0.f_buf ≠ [] then some L_0.f_buf else none)
theorem strings_Builder_String_ok {p_0 : Value} {L_0 : O_Bld} {r : (List UInt8)} (hF : strings_Builder_String L_0 = some r) : CallOk Tryz.prog KG 60 [(eqVP p_0)] [(Bld_e p_0 (some L_0))] (fun _ => []) (strVP r) := by
  refine CallOk.intro 14 Tryz.func60 rfl Tryz.ntmps60 (Nat.le_of_ble_eq_true rfl) ?_
  intro c a w hG hn h
  unfold strings_Builder_String at hF
  change SatL c [.slot 0 (eqVP p_0), .res (Bld_e p_0 (some L_0))] a w at h
  obtain ⟨h_0_1, h⟩ := h.ex 1 rfl
  change SatL c [.slot 0 (eqVP p_0), .res (Bld_o p_0 h_0_1 (some L_0))] a w at h
  have hp := h.isp 1 rfl (fun Φ f w q => Bld_lp Φ f w q)
  replace h := h.slotc 0 rfl (V' := lpVP p_0 0) (fun _ _ h => eq_lp h hp)
  replace h := h.sep (R := lb p_0 121 [one (selfVP p_0), one (eqVP h_0_1)]) (S := (acc h_0_1 5 1 bC L_0.f_buf)) 1 rfl
  replace h := h.sub [0, 1, 2] (by rfl)
  change SatL c [.slot 0 (lpVP p_0 0), .res (lb p_0 121 [one (selfVP p_0), one (eqVP h_0_1)]), .res (acc h_0_1 5 1 bC L_0.f_buf)] a w at h
  refine regS mixed hn hG h [0, 1, 2] (ov [] (op_assign (opc (sc _ (by decide)))) .nil) fun _ a w h => ?_
  obtain ⟨hv1, hF⟩ := ite_some hF
  refine regS mixed hn hG h [500, 1] (ov [0] (op_move q0) <| ov [500] (op_nilCheck q0 (ptr_lp _ _)) <| ov [500] (op_fieldAddr_lbm (p := p_0) (n := 1) 0 1 Tryz.underlying121 rfl Tryz.sizeOf119 (by decide) q0 rfl) <| ov [500, 1] (op_load_lb1 [one (selfVP p_0)] [] 1 Tryz.isAgg119 q0 rfl rfl) <| ov [500, 2] (op_usd 1 q0 rfl hv1) <| ov [0] (op_move q0) <| ov [500] (op_nilCheck q0 (ptr_lp _ _)) <| ov [500] (op_fieldAddr_lbm (p := p_0) (n := 1) 0 1 Tryz.underlying121 rfl Tryz.sizeOf119 (by decide) q0 rfl) <| ov [500, 1] (op_load_lb1 [one (selfVP p_0)] [] 1 Tryz.isAgg119 q0 rfl rfl) <| ov [500, 2] (op_len_sl Tryz.underlying119 (opacc 0 1 rfl rfl)) <| oe [505, 500] [2] (GOk.plain (op_ustr Tryz.underlying149 (by kernel_rfl) q0 q1 hv1) rfl) <| ov [500] (op_assign q0) .nil) fun _ a w h => ?_
  refine wp_ret ?_
  obtain rfl := Option.some.inj hF
  exact ⟨.inl rfl, ret1 h Tryz.results60 (r_tmp 0 rfl) [] [] rfl rfl rfl⟩

def strings_Builder_WriteByte (L_0 : O_Bld) (a_1 : Int) : Option (Value × O_Bld) := (if L_0.f_buf.length + [u8of a_1].length ≤ mxl ∧ (L_0.f_buf.length + [u8of a_1].length) * 1 ≤ 140737488355328 then some (Value.nilIface, ⟨L_0.f_buf ++ [u8of a_1]⟩) else none)
theorem strings_Builder_WriteByte_ok {p_0 : Value} {L_0 : O_Bld} {a_1 : Int} {r : Value × O_Bld} (hF : strings_Builder_WriteByte L_0 a_1 = some r) : CallOk Tryz.prog KG 81 [(eqVP p_0), (intVP .u8 a_1)] [(Bld_e p_0 (some L_0))] (fun _ => [Bld_e p_0 (some r.2)]) (eqVP r.1) := by
  refine CallOk.intro 17 Tryz.func81 rfl Tryz.ntmps81 (Nat.le_of_ble_eq_true rfl) ?_
  intro c a w hG hn h
  unfold strings_Builder_WriteByte at hF
  change SatL c [.slot 0 (eqVP p_0), .slot 1 (intVP .u8 a_1), .res (Bld_e p_0 (some L_0))] a w at h
  obtain ⟨h_0_1, h⟩ := h.ex 2 rfl
  change SatL c [.slot 0 (eqVP p_0), .slot 1 (intVP .u8 a_1), .res (Bld_o p_0 h_0_1 (some L_0))] a w at h
  have hp := h.isp 2 rfl (fun Φ f w q => Bld_lp Φ f w q)
  replace h := h.slotc 0 rfl (V' := lpVP p_0 0) (fun _ _ h => eq_lp h hp)
  replace h := h.sep (R := lb p_0 121 [one (selfVP p_0), one (eqVP h_0_1)]) (S := (acc h_0_1 5 1 bC L_0.f_buf)) 2 rfl
  replace h := h.sub [0, 1, 2, 3] (by rfl)
  change SatL c [.slot 0 (lpVP p_0 0), .slot 1 (intVP .u8 a_1), .res (lb p_0 121 [one (selfVP p_0), one (eqVP h_0_1)]), .res (acc h_0_1 5 1 bC L_0.f_buf)] a w at h
  refine regS mixed hn hG h [0, 1, 2, 3] (ov [] (op_assign (opc (ec _))) .nil) fun _ a w h => ?_
  refine regS mixed hn hG h [0, 1, 3, 500] (ov [0] (op_move q0) <| oc [500] [2] Tryz.call78 copyCheck_ok ⟨(lp_eqo 0 rfl), trivial⟩ .nil) fun _ a w h => ?_
  obtain ⟨hv1, hF⟩ := ite_some hF
  refine regS mixed hn hG h [500, 503] (ov [0] (op_move q0) <| ov [0] (op_move q0) <| ov [500] (op_nilCheck q0 (ptr_lp _ _)) <| ov [500] (op_fieldAddr_lbm (p := p_0) (n := 1) 0 1 Tryz.underlying121 rfl Tryz.sizeOf119 (by decide) q0 rfl) <| ov [500, 3] (op_load_lb1 [one (selfVP p_0)] [] 1 Tryz.isAgg119 q0 rfl rfl) <| ov [1] (op_move q0) <| ov [500] (op_lit (xs := [.tmp 12]) (ys := [u8of a_1]) _ rfl Tryz.underlying119 Tryz.sizeOf5 Tryz.zeroValue5 rfl rfl (by decide) (by decide) ⟨⟨_, q0, (cells_u8 _)⟩, trivial⟩ lens_bC) <| og [502, 500] [2] [.slot 14 7 100000 (fun v1_ _ => (eqVP v1_)), .res 7 100000 (fun v1_ _ => (acc (v1_) 5 1 bC (L_0.f_buf ++ [u8of a_1])))] (GOk.plain (op_append (i := Tryz.t5) Tryz.underlying119 Tryz.type5 rfl lens_bC (by decide) rfl q0 q1 hv1) rfl) <| ov [508] (op_nilCheck q0 (ptr_lp _ _)) <| ov [500] (op_fieldAddr_lbm (p := p_0) (n := 1) 0 1 Tryz.underlying121 rfl Tryz.sizeOf119 (by decide) q0 rfl) <| og [500, 503, 502] [3] [.res 7 100000 (fun v1_ _ => (lb p_0 121 [one (selfVP p_0), one (eqVP (v1_))]))] (fun {β} => (GOk.plain (op_store_lb [one (selfVP p_0)] [one (eqVP h_0_1)] [] [one (eqVP ((β 7)))] Tryz.sizeOf119 q0 (opone 1 2 rfl rfl acc_one) (cells_h _) rfl rfl rfl) rfl)) .nil) fun b2 a w h => ?_
  refine regS mixed hn hG h [500, 0, 1] (ov [] (op_assign (opc (ec _))) .nil) fun _ a w h => ?_
  refine wp_ret ?_
  replace h := h.unsep 1 2 rfl rfl (by decide)
  replace h := h.conv 1 rfl (R' := Bld_e p_0 (some ⟨L_0.f_buf ++ [u8of a_1]⟩)) (Bld_packo (v1 := (b2 7)) (o := (some ⟨L_0.f_buf ++ [u8of a_1]⟩)))
  replace h := h.sub [0, 1] (by rfl)
  change SatL c [.slot 4 (eqVP Value.nilIface), .res (Bld_e p_0 (some ⟨L_0.f_buf ++ [u8of a_1]⟩))] a w at h
  obtain rfl := Option.some.inj hF
  exact ⟨.inl rfl, ret1 h Tryz.results81 (r_tmp 0 rfl) [1] [(Bld_e p_0 (some ⟨L_0.f_buf ++ [u8of a_1]⟩))] rfl rfl rfl⟩

def strings_Builder_WriteString (L_0 : O_Bld) (a_1 : List UInt8) : Option (Int × Value × O_Bld) := (if L_0.f_buf.length + a_1.length ≤ mxl ∧ (L_0.f_buf.length + a_1.length) * 1 ≤ 140737488355328 then some ((a_1.length : Int), Value.nilIface, ⟨L_0.f_buf ++ a_1⟩) else none)
theorem strings_Builder_WriteString_ok {p_0 : Value} {L_0 : O_Bld} {a_1 : List UInt8} {r : Int × Value × O_Bld} (hF : strings_Builder_WriteString L_0 a_1 = some r) : CallOk Tryz.prog KG 82 [(eqVP p_0), (strVP a_1)] [(Bld_e p_0 (some L_0))] (fun _ => [Bld_e p_0 (some r.2.2)]) (tupVP [(intVP .i64 r.1), (eqVP r.2.1)]) := by
  refine CallOk.intro 19 Tryz.func82 rfl Tryz.ntmps82 (Nat.le_of_ble_eq_true rfl) ?_
  intro c a w hG hn h
  unfold strings_Builder_WriteString at hF
  change SatL c [.slot 0 (eqVP p_0), .slot 1 (strVP a_1), .res (Bld_e p_0 (some L_0))] a w at h
  obtain ⟨h_0_1, h⟩ := h.ex 2 rfl
  change SatL c [.slot 0 (eqVP p_0), .slot 1 (strVP a_1), .res (Bld_o p_0 h_0_1 (some L_0))] a w at h
  have hp := h.isp 2 rfl (fun Φ f w q => Bld_lp Φ f w q)
  replace h := h.slotc 0 rfl (V' := lpVP p_0 0) (fun _ _ h => eq_lp h hp)
  replace h := h.sep (R := lb p_0 121 [one (selfVP p_0), one (eqVP h_0_1)]) (S := (acc h_0_1 5 1 bC L_0.f_buf)) 2 rfl
  replace h := h.sub [0, 1, 2, 3] (by rfl)
  change SatL c [.slot 0 (lpVP p_0 0), .slot 1 (strVP a_1), .res (lb p_0 121 [one (selfVP p_0), one (eqVP h_0_1)]), .res (acc h_0_1 5 1 bC L_0.f_buf)] a w at h
  refine regS mixed hn hG h [0, 1, 2, 3] (ov [] (op_assign qi) <| ov [] (op_assign (opc (ec _))) .nil) fun _ a w h => ?_
  refine regS mixed hn hG h [0, 1, 3, 500] (ov [0] (op_move q0) <| oc [500] [2] Tryz.call78 copyCheck_ok ⟨(lp_eqo 0 rfl), trivial⟩ .nil) fun _ a w h => ?_
  obtain ⟨hv1, hF⟩ := ite_some hF
  refine regS mixed hn hG h [1, 500, 503] (ov [0] (op_move q0) <| ov [0] (op_move q0) <| ov [500] (op_nilCheck q0 (ptr_lp _ _)) <| ov [500] (op_fieldAddr_lbm (p := p_0) (n := 1) 0 1 Tryz.underlying121 rfl Tryz.sizeOf119 (by decide) q0 rfl) <| ov [500, 3] (op_load_lb1 [one (selfVP p_0)] [] 1 Tryz.isAgg119 q0 rfl rfl) <| ov [1] (op_move q0) <| og [501, 500] [2] [.slot 14 6 100000 (fun v1_ _ => (eqVP v1_)), .res 6 100000 (fun v1_ _ => (acc (v1_) 5 1 bC (L_0.f_buf ++ a_1)))] (GOk.plain (op_append_str Tryz.underlying119 Tryz.underlying9 Tryz.type5 rfl rfl rfl rfl q0 q1 hv1) rfl) <| ov [507] (op_nilCheck q0 (ptr_lp _ _)) <| ov [500] (op_fieldAddr_lbm (p := p_0) (n := 1) 0 1 Tryz.underlying121 rfl Tryz.sizeOf119 (by decide) q0 rfl) <| og [500, 503, 502] [3] [.res 6 100000 (fun v1_ _ => (lb p_0 121 [one (selfVP p_0), one (eqVP (v1_))]))] (fun {β} => (GOk.plain (op_store_lb [one (selfVP p_0)] [one (eqVP h_0_1)] [] [one (eqVP ((β 6)))] Tryz.sizeOf119 q0 (opone 1 2 rfl rfl acc_one) (cells_h _) rfl rfl rfl) rfl)) .nil) fun b2 a w h => ?_
  refine regS mixed hn hG h [501, 500, 1, 2] (ov [0] (op_move q0) <| ov [500] (op_len_str Tryz.underlying9 q0) <| ov [500] (op_assign q0) <| ov [] (op_assign (opc (ec _))) .nil) fun _ a w h => ?_
  refine wp_ret ?_
  replace h := h.unsep 2 3 rfl rfl (by decide)
  replace h := h.conv 2 rfl (R' := Bld_e p_0 (some ⟨L_0.f_buf ++ a_1⟩)) (Bld_packo (v1 := (b2 6)) (o := (some ⟨L_0.f_buf ++ a_1⟩)))
  replace h := h.sub [0, 1, 2] (by rfl)
  change SatL c [.slot 4 (intVP .i64 (a_1.length : Int)), .slot 5 (eqVP Value.nilIface), .res (Bld_e p_0 (some ⟨L_0.f_buf ++ a_1⟩))] a w at h
  obtain rfl := Option.some.inj hF
  exact ⟨.inl rfl, retn h (rs := [.tmp 4, .tmp 5]) (Vs := [(intVP .i64 (a_1.length : Int)), (eqVP Value.nilIface)]) Tryz.results82 (by decide) ⟨(r_tmp 0 rfl), (r_tmp 1 rfl), trivial⟩ [2] [(Bld_e p_0 (some ⟨L_0.f_buf ++ a_1⟩))] rfl rfl rfl⟩

def wire_big.b1 (a_0 : Int) (a_1 : Int) (x4 : Int) (x5 : List UInt8) : Option (Flow (List UInt8) (Int × (List UInt8))) := (if (decide (x4 < a_1)) = true then (if (0 : Int) ≤ IntKind.wrap .i64 (8 * (IntKind.wrap .i64 ((IntKind.wrap .i64 (a_1 - 1)) - x4))) then (if (0 : Int) ≤ x4 ∧ x4 < 8 then some (.cont (IntKind.wrap .i64 (x4 + 1), x5.set x4.toNat (u8of (IntKind.wrap .u8 (shr .u64 a_0 (IntKind.wrap .i64 (8 * (IntKind.wrap .i64 ((IntKind.wrap .i64 (a_1 - 1)) - x4))))))))) else none) else none) else some (.brk (x4, x5)))
def wire_big (a_0 : Int) (a_1 : Int) : Option (List UInt8) := ((loopN (fun s : Int × (List UInt8) => wire_big.b1 a_0 a_1 s.1 s.2) ((a_1 - 0 : Int).toNat + 2) (0, (List.replicate 8 0))).bind fun cr => match cr with | .ret r => some r | .next (y18, y19) => (if (0 : Int) ≤ 0 ∧ (0 : Int) ≤ a_1 ∧ a_1 ≤ 8 ∧ (0 : Int) < 8 then (if (a_1 : Int).toNat - (0 : Int).toNat ≤ 8 then some (y19.take ((a_1 : Int).toNat - (0 : Int).toNat)) else none) else none))
theorem wire_big_ok {a_0 : Int} {a_1 : Int} {r : (List UInt8)} (hF : wire_big a_0 a_1 = some r) : CallOk Tryz.prog KG 69 [(intVP .u64 a_0), (intVP .i64 a_1)] [] (fun _ => []) (strVP r) := by
  refine CallOk.intro 25 Tryz.func69 rfl Tryz.ntmps69 (Nat.le_of_ble_eq_true rfl) ?_
  intro c a w hG hn h
  unfold wire_big at hF
  change SatL c [.slot 0 (intVP .u64 a_0), .slot 1 (intVP .i64 a_1)] a w at h
  refine regS mixed hn hG h [0, 1] (ov [] (op_assign (opc (sc _ (by decide)))) .nil) fun _ a w h => ?_
  refine regS mixed hn hG h [0, 1, 501, 500] (ob [] (op_alloc Tryz.zeroValue135 z135) .nil) fun b1 a w h => ?_
  refine wp_seq ?_
  refine regS mixed hn hG h [0, 1, 2, 501, 500, 3] (ov [1] (op_move q0) <| ov [] (op_move qi) .nil) fun _ a w h => ?_
  refine wp_block ?_
  obtain ⟨cr14, hl15, hF⟩ := bind_some hF
  refine wp_mono (wp_loopN (R := (List UInt8)) (S := Int × (List UInt8)) (fun s a w => SatL c [.slot 0 (intVP .u64 a_0), .slot 1 (intVP .i64 a_1), .slot 5 (lpVP (b1 0) 0), .slot 7 (intVP .i64 a_1), .slot 8 (intVP .i64 s.1), .res (lb (b1 0) 135 [bytesCk 8 s.2])] a w) (fun res e a w => match res with | .next s => e = .exit 0 ∧ SatL c [.slot 1 (intVP .i64 a_1), .slot 5 (lpVP (b1 0) 0), .res (lb (b1 0) 135 [bytesCk 8 s.2])] a w | .ret r => e = .ret ∧ RetOk Tryz.prog Tryz.f69 c (strVP r) (fun _ => []) a w) ?_ _ (0, (List.replicate 8 0)) _ _ _ (h.sub [0, 1, 2, 3, 4, 5] (by rfl)) hl15) ?_
  · clear hl15 hF h
    intro s a w o h hF
    obtain ⟨x4, x5⟩ := s
    change wire_big.b1 a_0 a_1 x4 x5 = some o at hF
    unfold wire_big.b1 at hF
    change SatL c [.slot 0 (intVP .u64 a_0), .slot 1 (intVP .i64 a_1), .slot 5 (lpVP (b1 0) 0), .slot 7 (intVP .i64 a_1), .slot 8 (intVP .i64 x4), .res (lb (b1 0) 135 [bytesCk 8 x5])] a w at h
    refine regS mixed hn hG h [0, 1, 2, 3, 4, 500, 5] (ov [4, 3] (op_bin bin_lss q0 q1) .nil) fun _ a w h => ?_
    refine wp_seq ?_
    refine cnd h hF 5 [0, 1, 2, 3, 4, 6] [0, 1, 2, 3, 4, 6] (fun hb11 hF h => ?_) (fun hb11 hF h => ?_)
    · refine wp_skip ?_
      show Code.wp Tryz.prog _ _ a w
      refine wp_seq ?_
      refine wp_block ?_
      refine regS mixed hn hG h [0, 1, 2, 500, 3, 4, 5] (ov [4] (op_move q0) <| ov [500] (op_assign q0) .nil) fun _ a w h => ?_
      obtain ⟨hv12, hF⟩ := ite_some hF
      obtain ⟨hv13, hF⟩ := ite_some hF
      refine reg mixed hn hG h [0, 1, 2, 4, 5, 500] (ov [3] (op_move q0) <| ov [0] (op_move q0) <| ov [1] (op_move q0) <| ov [500] (op_bin bin_sub q0 qi) <| ov [3] (op_move q0) <| ov [501, 500] (op_bin bin_sub q0 q1) <| ov [500] (op_bin bin_mul qi q0) <| ov [505, 500] (op_bin (bin_shr hv12) q0 q1) <| ov [500] (op_convert_int Tryz.underlying32 Tryz.underlying5 q0) <| ov [2, 508] (op_indexAddr_lb Tryz.underlying135 Tryz.sizeOf5 q0 q1 hv13) <| ou [500, 501] 6 (op_store_lbB (i := x4) [] [] Tryz.sizeOf5 q0 q1 rfl hv13) .nil) fun _ a w h => ?_
      show Code.wp Tryz.prog _ _ a w
      refine reg mixed hn hG h [0, 1, 2, 3, 500, 5] (ov [4] (op_bin bin_add q0 qi) <| od [500] 4 (op_move q0) .nil) fun _ a w h => ?_
      obtain rfl := Option.some.inj hF
      exact ⟨rfl, h.sub [0, 1, 2, 3, 4, 5] (by rfl)⟩
    · refine wp_exit ?_
      obtain rfl := Option.some.inj hF
      exact ⟨exit_ne _, rfl, h.sub [1, 2, 5] (by rfl)⟩
  · clear hl15
    intro e a w hq
    cases cr14 with
    | ret r16 =>
      obtain ⟨rfl, hq⟩ := hq
      obtain rfl := Option.some.inj hF
      exact ⟨.inl rfl, hq⟩
    | next s17 =>
      obtain ⟨y18, y19⟩ := s17
      obtain ⟨rfl, h⟩ := hq
      change SatL c [.slot 1 (intVP .i64 a_1), .slot 5 (lpVP (b1 0) 0), .res (lb (b1 0) 135 [bytesCk 8 y19])] a w at h
      refine inBlock_at ?_
      show Code.wp Tryz.prog _ _ a w
      obtain ⟨hv20, hF⟩ := ite_some hF
      obtain ⟨hv21, hF⟩ := ite_some hF
      refine regS mixed hn hG h [500] (ov [0] (op_move q0) <| ov [1, 500] (op_slice_lb (a := 0) (b := a_1) Tryz.underlying135 Tryz.sizeOf5 q0 rfl ⟨_, q1⟩ hv20) <| ov [500, 2] (op_str_lsl [] [] 1 Tryz.underlying119 Tryz.underlying5 Tryz.underlying9 q0 rfl rfl hv21 (by decide)) <| ov [500] (op_assign q0) .nil) fun _ a w h => ?_
      refine wp_ret ?_
      obtain rfl := Option.some.inj hF
      exact ⟨.inl rfl, ret1 h Tryz.results69 (r_tmp 0 rfl) [] [] rfl rfl rfl⟩

def wire_Word (a_0 : Int) : Option (List UInt8) := ((wire_big (IntKind.wrap .u64 a_0) 4).bind fun r1 => some r1)
theorem wire_Word_ok {a_0 : Int} {r : (List UInt8)} (hF : wire_Word a_0 = some r) : CallOk Tryz.prog KG 46 [(intVP .u32 a_0)] [] (fun _ => []) (strVP r) := by
  refine CallOk.intro 6 Tryz.func46 rfl Tryz.ntmps46 (Nat.le_of_ble_eq_true rfl) ?_
  intro c a w hG hn h
  unfold wire_Word at hF
  change SatL c [.slot 0 (intVP .u32 a_0)] a w at h
  refine regS mixed hn hG h [0] (ov [] (op_assign (opc (sc _ (by decide)))) .nil) fun _ a w h => ?_
  obtain ⟨r1, hr1, hF⟩ := bind_some hF
  refine regS mixed hn hG h [500] (ov [0] (op_move q0) <| ov [500] (op_convert_int Tryz.underlying31 Tryz.underlying32 q0) <| oc [500] [] Tryz.call69 (wire_big_ok hr1) ⟨q0, qi, trivial⟩ <| ov [500] (op_assign q0) .nil) fun _ a w h => ?_
  refine wp_ret ?_
  obtain rfl := Option.some.inj hF
  exact ⟨.inl rfl, ret1 h Tryz.results46 (r_tmp 0 rfl) [] [] rfl rfl rfl⟩

def wire_Text (a_0 : List UInt8) : Option (List UInt8) := ((wire_Word (IntKind.wrap .u32 (a_0.length : Int))).bind fun r1 => (if r1.length + a_0.length ≤ mxl then some (r1 ++ a_0) else none))
theorem wire_Text_ok {a_0 : List UInt8} {r : (List UInt8)} (hF : wire_Text a_0 = some r) : CallOk Tryz.prog KG 83 [(strVP a_0)] [] (fun _ => []) (strVP r) := by
  refine CallOk.intro 9 Tryz.func83 rfl Tryz.ntmps83 (Nat.le_of_ble_eq_true rfl) ?_
  intro c a w hG hn h
  unfold wire_Text at hF
  change SatL c [.slot 0 (strVP a_0)] a w at h
  refine regS mixed hn hG h [0] (ov [] (op_assign (opc (sc _ (by decide)))) .nil) fun _ a w h => ?_
  obtain ⟨r1, hr1, hF⟩ := bind_some hF
  obtain ⟨hv2, hF⟩ := ite_some hF
  refine regS mixed hn hG h [500] (ov [0] (op_move q0) <| ov [500] (op_len_str Tryz.underlying9 q0) <| ov [500] (op_convert_int Tryz.underlying3 Tryz.underlying31 q0) <| oc [500] [] Tryz.call46 (wire_Word_ok hr1) ⟨q0, trivial⟩ <| ov [0] (op_move q0) <| ov [501, 500] (op_bin (bin_sadd hv2) q0 q1) <| ov [500] (op_assign q0) .nil) fun _ a w h => ?_
  refine wp_ret ?_
  obtain rfl := Option.some.inj hF
  exact ⟨.inl rfl, ret1 h Tryz.results83 (r_tmp 0 rfl) [] [] rfl rfl rfl⟩

def digest_input.b1 (a_1 : List (List UInt8)) (x7 : Int) (x8 : O_Bld) : Option (Flow (List UInt8) (Int × O_Bld)) := (if (decide (x7 < (a_1.length : Int))) = true then (if (0 : Int) ≤ x7 ∧ x7 < a_1.length then ((wire_Text (a_1.getD x7.toNat default)).bind fun r17 => ((strings_Builder_WriteString x8 r17).bind fun r18 => some (.cont (IntKind.wrap .i64 (x7 + 1), r18.2.2)))) else none) else some (.brk (x7, x8)))
def digest_input (a_0 : Int) (a_1 : List (List UInt8)) : Option (List UInt8) := ((strings_Builder_WriteByte ⟨[]⟩ a_0).bind fun r2 => ((loopN (fun s : Int × O_Bld => digest_input.b1 a_1 s.1 s.2) (((a_1.length : Int) - 0 : Int).toNat + 2) (0, r2.2)).bind fun cr => match cr with | .ret r => some r | .next (y23, y24) => ((strings_Builder_String y24).bind fun r25 => some r25)))
theorem digest_input_ok {a_0 : Int} {a_1 : List (List UInt8)} {r : (List UInt8)} (hF : digest_input a_0 a_1 = some r) : CallOk Tryz.prog KG 66 [(intVP .u8 a_0), (slVP strC a_1)] [] (fun _ => []) (strVP r) := by
  refine CallOk.intro 21 Tryz.func66 rfl Tryz.ntmps66 (Nat.le_of_ble_eq_true rfl) ?_
  intro c a w hG hn h
  unfold digest_input at hF
  change SatL c [.slot 0 (intVP .u8 a_0), .slot 1 (slVP strC a_1)] a w at h
  refine regS mixed hn hG h [0, 1] (ov [] (op_assign (opc (sc _ (by decide)))) .nil) fun _ a w h => ?_
  refine regS mixed hn hG h [0, 1, 501, 500] (ob [] (op_alloc Tryz.zeroValue121 zo121) .nil) fun b1 a w h => ?_
  replace h := h.conv 3 rfl Bld_new
  replace h := h.slotc 2 rfl (fun _ _ h => lp_eqv h)
  replace h := h.sub [0, 1, 2, 3] (by rfl)
  change SatL c [.slot 0 (intVP .u8 a_0), .slot 1 (slVP strC a_1), .slot 5 (eqVP (b1 0)), .res (Bld_e (b1 0) (some ⟨[]⟩))] a w at h
  obtain ⟨r2, hr2, hF⟩ := bind_some hF
  refine regS mixed hn hG h [1, 2, 500] (ov [0] (op_move q0) <| oc [2, 500] [3] Tryz.call81 (strings_Builder_WriteByte_ok hr2) ⟨q0, q1, trivial⟩ .nil) fun _ a w h => ?_
  refine wp_seq ?_
  refine regS mixed hn hG h [1, 502, 501, 500, 2] (ov [0] (op_move q0) <| ov [500] (op_len_sl Tryz.underlying75 q0) <| ov [] (op_move qi) .nil) fun _ a w h => ?_
  refine wp_block ?_
  obtain ⟨cr19, hl20, hF⟩ := bind_some hF
  refine wp_mono (wp_loopN (R := (List UInt8)) (S := Int × O_Bld) (fun s a w => SatL c [.slot 5 (eqVP (b1 0)), .slot 10 (slVP strC a_1), .slot 11 (intVP .i64 (a_1.length : Int)), .slot 12 (intVP .i64 s.1), .res (Bld_e (b1 0) (some s.2))] a w) (fun res e a w => match res with | .next s => e = .exit 0 ∧ SatL c [.slot 5 (eqVP (b1 0)), .res (Bld_e (b1 0) (some s.2))] a w | .ret r => e = .ret ∧ RetOk Tryz.prog Tryz.f66 c (strVP r) (fun _ => []) a w) ?_ _ (0, r2.2) _ _ _ (h.sub [0, 1, 2, 3, 4] (by rfl)) hl20) ?_
  · clear hl20 hF h
    intro s a w o h hF
    obtain ⟨x7, x8⟩ := s
    change digest_input.b1 a_1 x7 x8 = some o at hF
    unfold digest_input.b1 at hF
    change SatL c [.slot 5 (eqVP (b1 0)), .slot 10 (slVP strC a_1), .slot 11 (intVP .i64 (a_1.length : Int)), .slot 12 (intVP .i64 x7), .res (Bld_e (b1 0) (some x8))] a w at h
    refine regS mixed hn hG h [0, 1, 2, 3, 500, 4] (ov [3, 2] (op_bin bin_lss q0 q1) .nil) fun _ a w h => ?_
    refine wp_seq ?_
    refine cnd h hF 4 [0, 1, 2, 3, 5] [0, 1, 2, 3, 5] (fun hb15 hF h => ?_) (fun hb15 hF h => ?_)
    · refine wp_skip ?_
      show Code.wp Tryz.prog _ _ a w
      refine wp_seq ?_
      refine wp_block ?_
      obtain ⟨hv16, hF⟩ := ite_some hF
      refine regS mixed hn hG h [0, 500, 1, 2, 3, 4] (ov [1, 3] (op_indexAddr_sl Tryz.underlying75 Tryz.sizeOf9 lens_strC q0 q1 hv16) <| ov [500] (op_load_pp1 [] Tryz.isAgg9 q0) <| ov [500] (op_assign q0) .nil) fun _ a w h => ?_
      obtain ⟨r17, hr17, hF⟩ := bind_some hF
      obtain ⟨r18, hr18, hF⟩ := bind_some hF
      refine reg mixed hn hG h [0, 2, 3, 4, 500] (ov [1] (op_move q0) <| oc [500] [] Tryz.call83 (wire_Text_ok hr17) ⟨q0, trivial⟩ <| oc [0, 500] [5] Tryz.call82 (strings_Builder_WriteString_ok hr18) ⟨q0, q1, trivial⟩ .nil) fun _ a w h => ?_
      show Code.wp Tryz.prog _ _ a w
      refine reg mixed hn hG h [0, 1, 2, 500, 4] (ov [3] (op_bin bin_add q0 qi) <| od [500] 3 (op_move q0) .nil) fun _ a w h => ?_
      obtain rfl := Option.some.inj hF
      exact ⟨rfl, h.sub [0, 1, 2, 3, 4] (by rfl)⟩
    · refine wp_exit ?_
      obtain rfl := Option.some.inj hF
      exact ⟨exit_ne _, rfl, h.sub [0, 4] (by rfl)⟩
  · clear hl20
    intro e a w hq
    cases cr19 with
    | ret r21 =>
      obtain ⟨rfl, hq⟩ := hq
      obtain rfl := Option.some.inj hF
      exact ⟨.inl rfl, hq⟩
    | next s22 =>
      obtain ⟨y23, y24⟩ := s22
      obtain ⟨rfl, h⟩ := hq
      change SatL c [.slot 5 (eqVP (b1 0)), .res (Bld_e (b1 0) (some y24))] a w at h
      refine inBlock_at ?_
      show Code.wp Tryz.prog _ _ a w
      obtain ⟨r25, hr25, hF⟩ := bind_some hF
      refine regS mixed hn hG h [500] (oc [0] [1] Tryz.call60 (strings_Builder_String_ok hr25) ⟨q0, trivial⟩ <| ov [500] (op_assign q0) .nil) fun _ a w h => ?_
      refine wp_ret ?_
      obtain rfl := Option.some.inj hF
      exact ⟨.inl rfl, ret1 h Tryz.results66 (r_tmp 0 rfl) [] [] rfl rfl rfl⟩

def sha_Begin : Option S_sha_State := some (S_sha_State.mk gFirst [] (0 : Int))
theorem sha_Begin_ok {r : S_sha_State} (hF : sha_Begin = some r) : CallOk Tryz.prog KG 84 [] [] (fun _ => []) (aggVP [intsCk .u32 8 r.f_Words, one (strVP r.f_Rest), one (intVP .u64 r.f_Count)]) := by
  refine CallOk.intro 3 Tryz.func84 rfl Tryz.ntmps84 (Nat.le_of_ble_eq_true rfl) ?_
  intro c a w hG hn h
  unfold sha_Begin at hF
  change SatL c [] a w at h
  refine regS mixed hn hG h [501, 500] (ob [] (op_alloc Tryz.zeroValue156 z156) .nil) fun b1 a w h => ?_
  refine regS mixed hn hG h [0, 500] (ov [] (op_load_pp [intsCk .u32 8 gFirst] [] Tryz.isAgg127 Tryz.sizeOf127 (opg (fun Φ h => h.1)) rfl) <| ov [500] (op_build [(0, .tmp 1)] rfl bu156 z156 ⟨[], [intsCk .u32 8 (List.replicate 8 0)], [one (strVP []), one (intVP .u64 (0 : Int))], [intsCk .u32 8 gFirst], _, rfl, rfl, rfl, q0, (cells_agg _), rfl⟩) <| ou [0, 500] 1 (op_store_w Tryz.sizeOf156 q0 q1 (cells_agg _)) .nil) fun _ a w h => ?_
  refine wp_ret ?_
  obtain rfl := Option.some.inj hF
  exact ⟨.inl rfl, ret1 h Tryz.results84 (r_cell 0 1 rfl rfl Tryz.isAgg156 Tryz.sizeOf156 rfl) [] [] rfl rfl rfl⟩

def bits_RotateLeft32 (a_0 : Int) (a_1 : Int) : Option Int := some (bits .or .u32 (shl .u32 a_0 (bits .and .u64 (IntKind.wrap .u64 a_1) 31)) (shr .u32 a_0 (IntKind.wrap .u64 (32 - (bits .and .u64 (IntKind.wrap .u64 a_1) 31)))))
theorem bits_RotateLeft32_ok {a_0 : Int} {a_1 : Int} {r : Int} (hF : bits_RotateLeft32 a_0 a_1 = some r) : CallOk Tryz.prog KG 97 [(intVP .u32 a_0), (intVP .i64 a_1)] [] (fun _ => []) (intVP .u32 r) := by
  refine CallOk.intro 17 Tryz.func97 rfl Tryz.ntmps97 (Nat.le_of_ble_eq_true rfl) ?_
  intro c a w hG hn h
  unfold bits_RotateLeft32 at hF
  change SatL c [.slot 0 (intVP .u32 a_0), .slot 1 (intVP .i64 a_1)] a w at h
  refine regS mixed hn hG h [0, 1] (ov [] (op_assign qi) .nil) fun _ a w h => ?_
  refine regS mixed hn hG h [0, 500] (ov [1] (op_move q0) <| ov [500] (op_convert_int Tryz.underlying3 Tryz.underlying151 q0) <| ov [500] (op_bin bin_and q0 qi) <| ov [500] (op_assign q0) .nil) fun _ a w h => ?_
  refine regS mixed hn hG h [500] (ov [0] (op_move q0) <| ov [1] (op_move q0) <| ov [501, 500] (op_bin (bin_shlu rfl) q0 q1) <| ov [0] (op_move q0) <| ov [1] (op_move q0) <| ov [500] (op_bin bin_sub qi q0) <| ov [502, 500] (op_bin (bin_shru rfl) q0 q1) <| ov [504, 500] (op_bin bin_or q0 q1) <| ov [500] (op_assign q0) .nil) fun _ a w h => ?_
  refine wp_ret ?_
  obtain rfl := Option.some.inj hF
  exact ⟨.inl rfl, ret1 h Tryz.results97 (r_tmp 0 rfl) [] [] rfl rfl rfl⟩

def sha_schedule.b1 (a_0 : List UInt8) (x18 : Int) (x19 : List Int) : Option (Flow (List Int) (Int × (List Int))) := (if (decide (x18 < (64 : Int))) = true then (if (decide (x18 < (16 : Int))) = true then (if (0 : Int) ≤ IntKind.wrap .i64 (4 * x18) ∧ IntKind.wrap .i64 (4 * x18) ≤ IntKind.wrap .i64 ((IntKind.wrap .i64 (4 * x18)) + 4) ∧ IntKind.wrap .i64 ((IntKind.wrap .i64 (4 * x18)) + 4) ≤ a_0.length then (if (0 : Int) ≤ 0 ∧ (0 : Int) < ((a_0.take (IntKind.wrap .i64 ((IntKind.wrap .i64 (4 * x18)) + 4)).toNat).drop (IntKind.wrap .i64 (4 * x18)).toNat).length then (if (0 : Int) ≤ 1 ∧ (1 : Int) < ((a_0.take (IntKind.wrap .i64 ((IntKind.wrap .i64 (4 * x18)) + 4)).toNat).drop (IntKind.wrap .i64 (4 * x18)).toNat).length then (if (0 : Int) ≤ 2 ∧ (2 : Int) < ((a_0.take (IntKind.wrap .i64 ((IntKind.wrap .i64 (4 * x18)) + 4)).toNat).drop (IntKind.wrap .i64 (4 * x18)).toNat).length then (if (0 : Int) ≤ 3 ∧ (3 : Int) < ((a_0.take (IntKind.wrap .i64 ((IntKind.wrap .i64 (4 * x18)) + 4)).toNat).drop (IntKind.wrap .i64 (4 * x18)).toNat).length then (if (0 : Int) ≤ x18 ∧ x18 < 64 then some (.cont (IntKind.wrap .i64 (x18 + 1), x19.set x18.toNat (bits .or .u32 (bits .or .u32 (bits .or .u32 (shl .u32 (IntKind.wrap .u32 ((((a_0.take (IntKind.wrap .i64 ((IntKind.wrap .i64 (4 * x18)) + 4)).toNat).drop (IntKind.wrap .i64 (4 * x18)).toNat).getD (0 : Int).toNat 0).toNat)) 24) (shl .u32 (IntKind.wrap .u32 ((((a_0.take (IntKind.wrap .i64 ((IntKind.wrap .i64 (4 * x18)) + 4)).toNat).drop (IntKind.wrap .i64 (4 * x18)).toNat).getD (1 : Int).toNat 0).toNat)) 16)) (shl .u32 (IntKind.wrap .u32 ((((a_0.take (IntKind.wrap .i64 ((IntKind.wrap .i64 (4 * x18)) + 4)).toNat).drop (IntKind.wrap .i64 (4 * x18)).toNat).getD (2 : Int).toNat 0).toNat)) 8)) (IntKind.wrap .u32 ((((a_0.take (IntKind.wrap .i64 ((IntKind.wrap .i64 (4 * x18)) + 4)).toNat).drop (IntKind.wrap .i64 (4 * x18)).toNat).getD (3 : Int).toNat 0).toNat))))) else none) else none) else none) else none) else none) else none) else (if (0 : Int) ≤ IntKind.wrap .i64 (x18 - 15) ∧ IntKind.wrap .i64 (x18 - 15) < 64 then (if (0 : Int) ≤ IntKind.wrap .i64 (x18 - 2) ∧ IntKind.wrap .i64 (x18 - 2) < 64 then ((bits_RotateLeft32 (x19.getD (IntKind.wrap .i64 (x18 - 15)).toNat 0) (-7 : Int)).bind fun r49 => ((bits_RotateLeft32 (x19.getD (IntKind.wrap .i64 (x18 - 15)).toNat 0) (-18 : Int)).bind fun r50 => ((bits_RotateLeft32 (x19.getD (IntKind.wrap .i64 (x18 - 2)).toNat 0) (-17 : Int)).bind fun r51 => ((bits_RotateLeft32 (x19.getD (IntKind.wrap .i64 (x18 - 2)).toNat 0) (-19 : Int)).bind fun r52 => (if (0 : Int) ≤ IntKind.wrap .i64 (x18 - 16) ∧ IntKind.wrap .i64 (x18 - 16) < 64 then (if (0 : Int) ≤ IntKind.wrap .i64 (x18 - 7) ∧ IntKind.wrap .i64 (x18 - 7) < 64 then (if (0 : Int) ≤ x18 ∧ x18 < 64 then some (.cont (IntKind.wrap .i64 (x18 + 1), x19.set x18.toNat (IntKind.wrap .u32 ((IntKind.wrap .u32 ((IntKind.wrap .u32 ((x19.getD (IntKind.wrap .i64 (x18 - 16)).toNat 0) + (bits .xor .u32 (bits .xor .u32 r49 r50) (shr .u32 (x19.getD (IntKind.wrap .i64 (x18 - 15)).toNat 0) 3)))) + (x19.getD (IntKind.wrap .i64 (x18 - 7)).toNat 0))) + (bits .xor .u32 (bits .xor .u32 r51 r52) (shr .u32 (x19.getD (IntKind.wrap .i64 (x18 - 2)).toNat 0) 10)))))) else none) else none) else none))))) else none) else none)) else some (.brk (x18, x19)))
def sha_schedule (a_0 : List UInt8) : Option (List Int) := ((loopN (fun s : Int × (List Int) => sha_schedule.b1 a_0 s.1 s.2) ((64 - 0 : Int).toNat + 2) (0, (List.replicate 64 0))).bind fun cr => match cr with | .ret r => some r | .next (y60, y61) => some y61)
theorem sha_schedule_ok {a_0 : List UInt8} {r : (List Int)} (hF : sha_schedule a_0 = some r) : CallOk Tryz.prog KG 96 [(strVP a_0)] [] (fun _ => []) (aggVP [intsCk .u32 64 r]) := by
  refine CallOk.intro 83 Tryz.func96 rfl Tryz.ntmps96 (Nat.le_of_ble_eq_true rfl) ?_
  intro c a w hG hn h
  unfold sha_schedule at hF
  change SatL c [.slot 0 (strVP a_0)] a w at h
  refine regS mixed hn hG h [0, 501, 500] (ob [] (op_alloc Tryz.zeroValue173 z173) .nil) fun b1 a w h => ?_
  refine regS mixed hn hG h [0, 1, 501, 2, 500] (ob [] (op_alloc Tryz.zeroValue173 z173) .nil) fun b2 a w h => ?_
  refine wp_seq ?_
  refine regS mixed hn hG h [0, 1, 2, 500, 3, 4] (ov [] (op_move qi) .nil) fun _ a w h => ?_
  refine wp_block ?_
  obtain ⟨cr56, hl57, hF⟩ := bind_some hF
  refine wp_mono (wp_loopN (R := (List Int)) (S := Int × (List Int)) (fun s a w => SatL c [.slot 0 (strVP a_0), .slot 2 (lpVP (b1 0) 0), .slot 3 (lpVP (b2 0) 0), .slot 10 (intVP .i64 s.1), .res (lb (b1 0) 173 [intsCk .u32 64 (List.replicate 64 0)]), .res (lb (b2 0) 173 [intsCk .u32 64 s.2])] a w) (fun res e a w => match res with | .next s => e = .exit 0 ∧ SatL c [.slot 2 (lpVP (b1 0) 0), .slot 3 (lpVP (b2 0) 0), .res (lb (b1 0) 173 [intsCk .u32 64 (List.replicate 64 0)]), .res (lb (b2 0) 173 [intsCk .u32 64 s.2])] a w | .ret r => e = .ret ∧ RetOk Tryz.prog Tryz.f96 c (aggVP [intsCk .u32 64 r]) (fun _ => []) a w) ?_ _ (0, (List.replicate 64 0)) _ _ _ (h.sub [0, 1, 2, 3, 4, 5] (by rfl)) hl57) ?_
  · clear hl57 hF h
    intro s a w o h hF
    obtain ⟨x18, x19⟩ := s
    change sha_schedule.b1 a_0 x18 x19 = some o at hF
    unfold sha_schedule.b1 at hF
    change SatL c [.slot 0 (strVP a_0), .slot 2 (lpVP (b1 0) 0), .slot 3 (lpVP (b2 0) 0), .slot 10 (intVP .i64 x18), .res (lb (b1 0) 173 [intsCk .u32 64 (List.replicate 64 0)]), .res (lb (b2 0) 173 [intsCk .u32 64 x19])] a w at h
    refine regS mixed hn hG h [0, 1, 2, 3, 500, 4, 5] (ov [3] (op_bin bin_lss q0 qi) .nil) fun _ a w h => ?_
    refine wp_seq ?_
    refine cnd h hF 4 [0, 1, 2, 3, 5, 6] [0, 1, 2, 3, 5, 6] (fun hb39 hF h => ?_) (fun hb39 hF h => ?_)
    · refine wp_skip ?_
      show Code.wp Tryz.prog _ _ a w
      refine wp_seq ?_
      refine wp_block ?_
      refine regS mixed hn hG h [0, 1, 2, 500, 3, 4, 5] (ov [3] (op_move q0) <| ov [500] (op_assign q0) .nil) fun _ a w h => ?_
      refine wp_seq ?_
      refine regS mixed hn hG h [0, 1, 2, 3, 4, 500, 5, 6] (ov [3] (op_move q0) <| ov [500] (op_bin bin_lss q0 qi) .nil) fun _ a w h => ?_
      refine cnd h hF 5 [0, 1, 2, 3, 4, 6, 7] [0, 1, 2, 3, 4, 6, 7] (fun hb40 hF h => ?_) (fun hb40 hF h => ?_)
      · obtain ⟨hv41, hF⟩ := ite_some hF
        refine regS mixed hn hG h [0, 1, 2, 3, 500, 4, 5, 6] (ov [0] (op_move q0) <| ov [3] (op_move q0) <| ov [500] (op_bin bin_mul qi q0) <| ov [3] (op_move q0) <| ov [500] (op_bin bin_mul qi q0) <| ov [500] (op_bin bin_add q0 qi) <| ov [505, 503, 500] (op_slice_str (a := IntKind.wrap .i64 (4 * x18)) (b := IntKind.wrap .i64 ((IntKind.wrap .i64 (4 * x18)) + 4)) Tryz.underlying9 q0 ⟨_, q1⟩ ⟨_, q2⟩ hv41) <| ov [500] (op_assign q0) .nil) fun _ a w h => ?_
        obtain ⟨hv42, hF⟩ := ite_some hF
        obtain ⟨hv43, hF⟩ := ite_some hF
        obtain ⟨hv44, hF⟩ := ite_some hF
        obtain ⟨hv45, hF⟩ := ite_some hF
        obtain ⟨hv46, hF⟩ := ite_some hF
        refine regS mixed hn hG h [0, 1, 2, 5, 6, 500] (ov [3] (op_move q0) <| ov [4] (op_move q0) <| ov [500] (op_index_str Tryz.underlying9 q0 qi hv42) <| ov [500] (op_convert_int Tryz.underlying5 Tryz.underlying31 q0) <| ov [500] (op_bin (bin_shlu rfl) q0 qi) <| ov [4] (op_move q0) <| ov [500] (op_index_str Tryz.underlying9 q0 qi hv43) <| ov [500] (op_convert_int Tryz.underlying5 Tryz.underlying31 q0) <| ov [500] (op_bin (bin_shlu rfl) q0 qi) <| ov [504, 500] (op_bin bin_or q0 q1) <| ov [4] (op_move q0) <| ov [500] (op_index_str Tryz.underlying9 q0 qi hv44) <| ov [500] (op_convert_int Tryz.underlying5 Tryz.underlying31 q0) <| ov [500] (op_bin (bin_shlu rfl) q0 qi) <| ov [504, 500] (op_bin bin_or q0 q1) <| ov [4] (op_move q0) <| ov [500] (op_index_str Tryz.underlying9 q0 qi hv45) <| ov [500] (op_convert_int Tryz.underlying5 Tryz.underlying31 q0) <| ov [503, 500] (op_bin bin_or q0 q1) <| ov [2, 518] (op_indexAddr_lb Tryz.underlying173 Tryz.sizeOf31 q0 q1 hv46) <| ou [500, 501] 7 (op_store_lbI (i := x18) [] [] Tryz.sizeOf31 q0 q1 rfl hv46) .nil) fun _ a w h => ?_
        refine wp_exit ?_
        show Code.wp Tryz.prog _ _ a w
        refine reg mixed hn hG h [0, 1, 2, 500, 4, 5] (ov [3] (op_bin bin_add q0 qi) <| od [500] 3 (op_move q0) .nil) fun _ a w h => ?_
        obtain rfl := Option.some.inj hF
        exact ⟨rfl, h.sub [0, 1, 2, 3, 4, 5] (by rfl)⟩
      · refine wp_skip ?_
        show Code.wp Tryz.prog _ _ a w
        obtain ⟨hv47, hF⟩ := ite_some hF
        obtain ⟨hv48, hF⟩ := ite_some hF
        refine regS mixed hn hG h [0, 1, 2, 3, 501, 500, 4, 5, 6] (ov [3] (op_move q0) <| ov [500] (op_bin bin_sub q0 qi) <| ov [2, 500] (op_indexAddr_lb Tryz.underlying173 Tryz.sizeOf31 q0 q1 hv47) <| ov [500, 6] (op_load_lbI (i := IntKind.wrap .i64 (x18 - 15)) [] [] 1 Tryz.isAgg31 q0 rfl rfl hv47) <| ov [3] (op_move q0) <| ov [500] (op_bin bin_sub q0 qi) <| ov [2, 500] (op_indexAddr_lb Tryz.underlying173 Tryz.sizeOf31 q0 q1 hv48) <| ov [500, 6] (op_load_lbI (i := IntKind.wrap .i64 (x18 - 2)) [] [] 1 Tryz.isAgg31 q0 rfl rfl hv48) <| ov [504] (op_assign q0) <| ov [501] (op_assign q0) .nil) fun _ a w h => ?_
        obtain ⟨r49, hr49, hF⟩ := bind_some hF
        obtain ⟨r50, hr50, hF⟩ := bind_some hF
        refine regS mixed hn hG h [0, 1, 2, 3, 5, 500, 6, 7, 8] (ov [4] (op_move q0) <| oc [500] [] Tryz.call97 (bits_RotateLeft32_ok hr49) ⟨q0, qi, trivial⟩ <| ov [4] (op_move q0) <| oc [500] [] Tryz.call97 (bits_RotateLeft32_ok hr50) ⟨q0, qi, trivial⟩ <| ov [502, 500] (op_bin bin_xor q0 q1) <| ov [4] (op_move q0) <| ov [500] (op_bin (bin_shru rfl) q0 qi) <| ov [502, 500] (op_bin bin_xor q0 q1) <| ov [500] (op_assign q0) .nil) fun _ a w h => ?_
        obtain ⟨r51, hr51, hF⟩ := bind_some hF
        obtain ⟨r52, hr52, hF⟩ := bind_some hF
        refine regS mixed hn hG h [0, 1, 2, 3, 5, 500, 6, 7, 8] (ov [4] (op_move q0) <| oc [500] [] Tryz.call97 (bits_RotateLeft32_ok hr51) ⟨q0, qi, trivial⟩ <| ov [4] (op_move q0) <| oc [500] [] Tryz.call97 (bits_RotateLeft32_ok hr52) ⟨q0, qi, trivial⟩ <| ov [502, 500] (op_bin bin_xor q0 q1) <| ov [4] (op_move q0) <| ov [500] (op_bin (bin_shru rfl) q0 qi) <| ov [502, 500] (op_bin bin_xor q0 q1) <| ov [500] (op_assign q0) .nil) fun _ a w h => ?_
        obtain ⟨hv53, hF⟩ := ite_some hF
        obtain ⟨hv54, hF⟩ := ite_some hF
        obtain ⟨hv55, hF⟩ := ite_some hF
        refine reg mixed hn hG h [0, 1, 2, 6, 7, 500] (ov [3] (op_move q0) <| ov [3] (op_move q0) <| ov [500] (op_bin bin_sub q0 qi) <| ov [2, 500] (op_indexAddr_lb Tryz.underlying173 Tryz.sizeOf31 q0 q1 hv53) <| ov [500, 8] (op_load_lbI (i := IntKind.wrap .i64 (x18 - 16)) [] [] 1 Tryz.isAgg31 q0 rfl rfl hv53) <| ov [4] (op_move q0) <| ov [501, 500] (op_bin bin_add q0 q1) <| ov [3] (op_move q0) <| ov [500] (op_bin bin_sub q0 qi) <| ov [2, 500] (op_indexAddr_lb Tryz.underlying173 Tryz.sizeOf31 q0 q1 hv54) <| ov [500, 8] (op_load_lbI (i := IntKind.wrap .i64 (x18 - 7)) [] [] 1 Tryz.isAgg31 q0 rfl rfl hv54) <| ov [504, 500] (op_bin bin_add q0 q1) <| ov [5] (op_move q0) <| ov [501, 500] (op_bin bin_add q0 q1) <| ov [2, 513] (op_indexAddr_lb Tryz.underlying173 Tryz.sizeOf31 q0 q1 hv55) <| ou [500, 501] 8 (op_store_lbI (i := x18) [] [] Tryz.sizeOf31 q0 q1 rfl hv55) .nil) fun _ a w h => ?_
        show Code.wp Tryz.prog _ _ a w
        refine reg mixed hn hG h [0, 1, 2, 500, 4, 5] (ov [3] (op_bin bin_add q0 qi) <| od [500] 3 (op_move q0) .nil) fun _ a w h => ?_
        obtain rfl := Option.some.inj hF
        exact ⟨rfl, h.sub [0, 1, 2, 3, 4, 5] (by rfl)⟩
    · refine wp_exit ?_
      obtain rfl := Option.some.inj hF
      exact ⟨exit_ne _, rfl, h.sub [1, 2, 4, 5] (by rfl)⟩
  · clear hl57
    intro e a w hq
    cases cr56 with
    | ret r58 =>
      obtain ⟨rfl, hq⟩ := hq
      obtain rfl := Option.some.inj hF
      exact ⟨.inl rfl, hq⟩
    | next s59 =>
      obtain ⟨y60, y61⟩ := s59
      obtain ⟨rfl, h⟩ := hq
      change SatL c [.slot 2 (lpVP (b1 0) 0), .slot 3 (lpVP (b2 0) 0), .res (lb (b1 0) 173 [intsCk .u32 64 (List.replicate 64 0)]), .res (lb (b2 0) 173 [intsCk .u32 64 y61])] a w at h
      refine inBlock_at ?_
      show Code.wp Tryz.prog _ _ a w
      refine regS mixed hn hG h [0, 500] (ov [1, 3] (op_load_w 1 Tryz.isAgg173 Tryz.sizeOf173 q0) <| ou [0, 500] 2 (op_store_w Tryz.sizeOf173 q0 q1 (cells_agg _)) .nil) fun _ a w h => ?_
      refine wp_ret ?_
      obtain rfl := Option.some.inj hF
      exact ⟨.inl rfl, ret1 h Tryz.results96 (r_cell 0 1 rfl rfl Tryz.isAgg173 Tryz.sizeOf173 rfl) [] [] rfl rfl rfl⟩

def sha_Block.b1 (r4 : (List Int)) (x14 : Int) (x15 : List Int) : Option (Flow (List Int) (Int × (List Int))) := (if (decide (x14 < (64 : Int))) = true then ((bits_RotateLeft32 (x15.getD (4 : Int).toNat 0) (-6 : Int)).bind fun r27 => ((bits_RotateLeft32 (x15.getD (4 : Int).toNat 0) (-11 : Int)).bind fun r28 => ((bits_RotateLeft32 (x15.getD (4 : Int).toNat 0) (-25 : Int)).bind fun r29 => (if (0 : Int) ≤ x14 ∧ x14 < 64 then ((bits_RotateLeft32 (x15.getD (0 : Int).toNat 0) (-2 : Int)).bind fun r31 => ((bits_RotateLeft32 (x15.getD (0 : Int).toNat 0) (-13 : Int)).bind fun r32 => ((bits_RotateLeft32 (x15.getD (0 : Int).toNat 0) (-22 : Int)).bind fun r33 => some (.cont (IntKind.wrap .i64 (x14 + 1), ((x15.take (1 : Int).toNat ++ (x15.drop (0 : Int).toNat).take (min ((7 : Int).toNat - (0 : Int).toNat) ((8 : Int).toNat - (1 : Int).toNat)) ++ x15.drop ((1 : Int).toNat + (min ((7 : Int).toNat - (0 : Int).toNat) ((8 : Int).toNat - (1 : Int).toNat)))).set (4 : Int).toNat (IntKind.wrap .u32 (((x15.take (1 : Int).toNat ++ (x15.drop (0 : Int).toNat).take (min ((7 : Int).toNat - (0 : Int).toNat) ((8 : Int).toNat - (1 : Int).toNat)) ++ x15.drop ((1 : Int).toNat + (min ((7 : Int).toNat - (0 : Int).toNat) ((8 : Int).toNat - (1 : Int).toNat)))).getD (4 : Int).toNat 0) + (IntKind.wrap .u32 ((IntKind.wrap .u32 ((IntKind.wrap .u32 ((IntKind.wrap .u32 ((x15.getD (7 : Int).toNat 0) + (bits .xor .u32 (bits .xor .u32 r27 r28) r29))) + (bits .xor .u32 (bits .and .u32 (x15.getD (4 : Int).toNat 0) (x15.getD (5 : Int).toNat 0)) (bits .and .u32 (inot .u32 (x15.getD (4 : Int).toNat 0)) (x15.getD (6 : Int).toNat 0))))) + (gConst.getD x14.toNat 0))) + (r4.getD x14.toNat 0)))))).set (0 : Int).toNat (IntKind.wrap .u32 ((IntKind.wrap .u32 ((IntKind.wrap .u32 ((IntKind.wrap .u32 ((IntKind.wrap .u32 ((IntKind.wrap .u32 ((x15.getD (7 : Int).toNat 0) + (bits .xor .u32 (bits .xor .u32 r27 r28) r29))) + (bits .xor .u32 (bits .and .u32 (x15.getD (4 : Int).toNat 0) (x15.getD (5 : Int).toNat 0)) (bits .and .u32 (inot .u32 (x15.getD (4 : Int).toNat 0)) (x15.getD (6 : Int).toNat 0))))) + (gConst.getD x14.toNat 0))) + (r4.getD x14.toNat 0))) + (bits .xor .u32 (bits .xor .u32 r31 r32) r33))) + (bits .xor .u32 (bits .xor .u32 (bits .and .u32 (x15.getD (0 : Int).toNat 0) (x15.getD (1 : Int).toNat 0)) (bits .and .u32 (x15.getD (0 : Int).toNat 0) (x15.getD (2 : Int).toNat 0))) (bits .and .u32 (x15.getD (1 : Int).toNat 0) (x15.getD (2 : Int).toNat 0)))))))))) else none)))) else some (.brk (x14, x15)))
def sha_Block.b2 (a_0 : List Int) (x41 : Int) (x42 : List Int) : Option (Flow (List Int) (Int × (List Int))) := (if (decide (x41 < (8 : Int))) = true then (if (0 : Int) ≤ x41 ∧ x41 < 8 then some (.cont (IntKind.wrap .i64 (x41 + 1), x42.set x41.toNat (IntKind.wrap .u32 ((x42.getD x41.toNat 0) + (a_0.getD x41.toNat 0))))) else none) else some (.brk (x41, x42)))
def sha_Block (a_0 : List Int) (a_1 : List UInt8) : Option (List Int) := (if (!decide ((a_1.length : Int) = (64 : Int))) = true then some a_0 else ((sha_schedule a_1).bind fun r4 => ((loopN (fun s : Int × (List Int) => sha_Block.b1 r4 s.1 s.2) ((64 - 0 : Int).toNat + 2) (0, a_0)).bind fun cr => match cr with | .ret r => some r | .next (y38, y39) => ((loopN (fun s : Int × (List Int) => sha_Block.b2 a_0 s.1 s.2) ((8 - 0 : Int).toNat + 2) (0, y39)).bind fun cr => match cr with | .ret r => some r | .next (y53, y54) => some y54))))
theorem sha_Block_ok {a_0 : List Int} {a_1 : List UInt8} {r : (List Int)} (hF : sha_Block a_0 a_1 = some r) : CallOk Tryz.prog KG 94 [(aggVP [intsCk .u32 8 a_0]), (strVP a_1)] [] (fun _ => []) (aggVP [intsCk .u32 8 r]) := by
  refine CallOk.intro 113 Tryz.func94 rfl Tryz.ntmps94 (Nat.le_of_ble_eq_true rfl) ?_
  intro c a w hG hn h
  unfold sha_Block at hF
  change SatL c [.slot 0 (aggVP [intsCk .u32 8 a_0]), .slot 1 (strVP a_1)] a w at h
  refine regS mixed hn hG h [1, 503, 501, 502, 500] (ob [0] (op_box q0 (cells_agg _)) <| ob [] (op_alloc Tryz.zeroValue127 z127) .nil) fun b1 a w h => ?_
  refine wp_seq ?_
  refine regS mixed hn hG h [0, 1, 2, 500, 3, 4] (ov [0] (op_move q0) <| ov [500] (op_len_str Tryz.underlying9 q0) <| ov [500] (op_bin bin_neq q0 qi) .nil) fun _ a w h => ?_
  refine cnd h hF 3 [1, 2, 4, 5] [0, 1, 2, 4, 5] (fun hb3 hF h => ?_) (fun hb3 hF h => ?_)
  · refine regS mixed hn hG h [1, 500] (ov [0, 2] (op_load_w 1 Tryz.isAgg127 Tryz.sizeOf127 q0) <| ou [1, 500] 3 (op_store_w Tryz.sizeOf127 q0 q1 (cells_agg _)) .nil) fun _ a w h => ?_
    refine wp_ret ?_
    obtain rfl := Option.some.inj hF
    exact ⟨.inl rfl, ret1 h Tryz.results94 (r_cell 0 1 rfl rfl Tryz.isAgg127 Tryz.sizeOf127 rfl) [] [] rfl rfl rfl⟩
  · refine wp_skip ?_
    show Code.wp Tryz.prog _ _ a w
    obtain ⟨r4, hr4, hF⟩ := bind_some hF
    refine regS mixed hn hG h [1, 2, 502, 3, 4, 500] (ov [0] (op_move q0) <| oc [500] [] Tryz.call96 (sha_schedule_ok hr4) ⟨q0, trivial⟩ <| ob [] (op_alloc Tryz.zeroValue173 z173) <| og [501, 502] [500] [.res 2 100000 (fun v1_ _ => (lb (v1_) 173 [intsCk .u32 64 r4]))] (GOk.plain (op_store_w Tryz.sizeOf173 q0 q1 (cells_agg _)) rfl) .nil) fun b5 a w h => ?_
    refine regS mixed hn hG h [0, 1, 2, 502, 3, 4, 5, 500] (ov [0, 3] (op_load_w 1 Tryz.isAgg127 Tryz.sizeOf127 q0) <| ob [] (op_alloc Tryz.zeroValue127 z127) <| og [501, 502] [500] [.res 1 100000 (fun v1_ _ => (lb (v1_) 127 [intsCk .u32 8 a_0]))] (GOk.plain (op_store_w Tryz.sizeOf127 q0 q1 (cells_agg _)) rfl) .nil) fun b6 a w h => ?_
    refine wp_seq ?_
    refine regS mixed hn hG h [0, 1, 2, 3, 500, 4, 5, 6, 7] (ov [] (op_move qi) .nil) fun _ a w h => ?_
    refine wp_block ?_
    obtain ⟨cr34, hl35, hF⟩ := bind_some hF
    refine wp_mono (wp_loopN (R := (List Int)) (S := Int × (List Int)) (fun s a w => SatL c [.slot 2 (lpVP (b1 0) 0), .slot 4 (lpVP (b1 1) 0), .slot 5 (lpVP (b5 2) 0), .slot 6 (lpVP (b6 1) 0), .slot 23 (intVP .i64 s.1), .res (lb (b1 0) 127 [intsCk .u32 8 a_0]), .res (lb (b1 1) 127 [intsCk .u32 8 (List.replicate 8 0)]), .res (lb (b5 2) 173 [intsCk .u32 64 r4]), .res (lb (b6 1) 127 [intsCk .u32 8 s.2])] a w) (fun res e a w => match res with | .next s => e = .exit 0 ∧ SatL c [.slot 2 (lpVP (b1 0) 0), .slot 4 (lpVP (b1 1) 0), .slot 6 (lpVP (b6 1) 0), .res (lb (b1 0) 127 [intsCk .u32 8 a_0]), .res (lb (b1 1) 127 [intsCk .u32 8 (List.replicate 8 0)]), .res (lb (b6 1) 127 [intsCk .u32 8 s.2])] a w | .ret r => e = .ret ∧ RetOk Tryz.prog Tryz.f94 c (aggVP [intsCk .u32 8 r]) (fun _ => []) a w) ?_ _ (0, a_0) _ _ _ (h.sub [0, 1, 2, 3, 4, 5, 6, 7, 8] (by rfl)) hl35) ?_
    · clear hl35 hF h
      intro s a w o h hF
      obtain ⟨x14, x15⟩ := s
      change sha_Block.b1 r4 x14 x15 = some o at hF
      unfold sha_Block.b1 at hF
      change SatL c [.slot 2 (lpVP (b1 0) 0), .slot 4 (lpVP (b1 1) 0), .slot 5 (lpVP (b5 2) 0), .slot 6 (lpVP (b6 1) 0), .slot 23 (intVP .i64 x14), .res (lb (b1 0) 127 [intsCk .u32 8 a_0]), .res (lb (b1 1) 127 [intsCk .u32 8 (List.replicate 8 0)]), .res (lb (b5 2) 173 [intsCk .u32 64 r4]), .res (lb (b6 1) 127 [intsCk .u32 8 x15])] a w at h
      refine regS mixed hn hG h [0, 1, 2, 3, 4, 500, 5, 6, 7, 8] (ov [4] (op_bin bin_lss q0 qi) .nil) fun _ a w h => ?_
      refine wp_seq ?_
      refine cnd h hF 5 [0, 1, 2, 3, 4, 6, 7, 8, 9] [0, 1, 2, 3, 4, 6, 7, 8, 9] (fun hb26 hF h => ?_) (fun hb26 hF h => ?_)
      · refine wp_skip ?_
        show Code.wp Tryz.prog _ _ a w
        refine wp_seq ?_
        refine wp_block ?_
        refine regS mixed hn hG h [0, 1, 2, 3, 500, 4, 5, 6, 7, 8] (ov [4] (op_move q0) <| ov [500] (op_assign q0) .nil) fun _ a w h => ?_
        refine regS mixed hn hG h [0, 1, 2, 3, 4, 501, 500, 5, 6, 7, 8, 9] (ov [3] (op_indexAddr_lb Tryz.underlying127 Tryz.sizeOf31 q0 qi (by decide)) <| ov [500, 9] (op_load_lbI (i := 0) [] [] 1 Tryz.isAgg31 q0 rfl rfl (by decide)) <| ov [3] (op_indexAddr_lb Tryz.underlying127 Tryz.sizeOf31 q0 qi (by decide)) <| ov [500, 9] (op_load_lbI (i := 4) [] [] 1 Tryz.isAgg31 q0 rfl rfl (by decide)) <| ov [502] (op_assign q0) <| ov [501] (op_assign q0) .nil) fun _ a w h => ?_
        obtain ⟨r27, hr27, hF⟩ := bind_some hF
        obtain ⟨r28, hr28, hF⟩ := bind_some hF
        obtain ⟨r29, hr29, hF⟩ := bind_some hF
        refine regS mixed hn hG h [0, 1, 2, 3, 4, 5, 6, 500, 7, 8, 9, 10, 11] (ov [6] (op_move q0) <| oc [500] [] Tryz.call97 (bits_RotateLeft32_ok hr27) ⟨q0, qi, trivial⟩ <| ov [6] (op_move q0) <| oc [500] [] Tryz.call97 (bits_RotateLeft32_ok hr28) ⟨q0, qi, trivial⟩ <| ov [502, 500] (op_bin bin_xor q0 q1) <| ov [6] (op_move q0) <| oc [500] [] Tryz.call97 (bits_RotateLeft32_ok hr29) ⟨q0, qi, trivial⟩ <| ov [502, 500] (op_bin bin_xor q0 q1) <| ov [500] (op_assign q0) .nil) fun _ a w h => ?_
        refine regS mixed hn hG h [0, 1, 2, 3, 4, 5, 7, 500, 8, 9, 10, 11, 12] (ov [6] (op_move q0) <| ov [3] (op_indexAddr_lb Tryz.underlying127 Tryz.sizeOf31 q0 qi (by decide)) <| ov [500, 12] (op_load_lbI (i := 5) [] [] 1 Tryz.isAgg31 q0 rfl rfl (by decide)) <| ov [502, 500] (op_bin bin_and q0 q1) <| ov [6] (op_move q0) <| ov [500] (op_un (un_xor _ _) q0) <| ov [3] (op_indexAddr_lb Tryz.underlying127 Tryz.sizeOf31 q0 qi (by decide)) <| ov [500, 12] (op_load_lbI (i := 6) [] [] 1 Tryz.isAgg31 q0 rfl rfl (by decide)) <| ov [502, 500] (op_bin bin_and q0 q1) <| ov [505, 500] (op_bin bin_xor q0 q1) <| ov [500] (op_assign q0) .nil) fun _ a w h => ?_
        obtain ⟨hv30, hF⟩ := ite_some hF
        refine regS mixed hn hG h [0, 1, 2, 3, 5, 500, 8, 9, 10, 11, 12] (ov [3] (op_indexAddr_lb Tryz.underlying127 Tryz.sizeOf31 q0 qi (by decide)) <| ov [500, 12] (op_load_lbI (i := 7) [] [] 1 Tryz.isAgg31 q0 rfl rfl (by decide)) <| ov [6] (op_move q0) <| ov [501, 500] (op_bin bin_add q0 q1) <| ov [7] (op_move q0) <| ov [501, 500] (op_bin bin_add q0 q1) <| ov [4] (op_move q0) <| ov [500] (op_indexAddr_ppI Tryz.underlying173 Tryz.sizeOf31 (opg (fun Φ h => h.2)) q0 hv30) <| ov [500] (op_load_pp1 [] Tryz.isAgg31 q0) <| ov [503, 500] (op_bin bin_add q0 q1) <| ov [4] (op_move q0) <| ov [2, 500] (op_indexAddr_lb Tryz.underlying173 Tryz.sizeOf31 q0 q1 hv30) <| ov [500, 11] (op_load_lbI (i := x14) [] [] 1 Tryz.isAgg31 q0 rfl rfl hv30) <| ov [503, 500] (op_bin bin_add q0 q1) <| ov [500] (op_assign q0) .nil) fun _ a w h => ?_
        obtain ⟨r31, hr31, hF⟩ := bind_some hF
        obtain ⟨r32, hr32, hF⟩ := bind_some hF
        obtain ⟨r33, hr33, hF⟩ := bind_some hF
        refine regS mixed hn hG h [0, 1, 2, 3, 4, 5, 500, 6, 7, 8, 9, 10] (ov [4] (op_move q0) <| oc [500] [] Tryz.call97 (bits_RotateLeft32_ok hr31) ⟨q0, qi, trivial⟩ <| ov [4] (op_move q0) <| oc [500] [] Tryz.call97 (bits_RotateLeft32_ok hr32) ⟨q0, qi, trivial⟩ <| ov [502, 500] (op_bin bin_xor q0 q1) <| ov [4] (op_move q0) <| oc [500] [] Tryz.call97 (bits_RotateLeft32_ok hr33) ⟨q0, qi, trivial⟩ <| ov [502, 500] (op_bin bin_xor q0 q1) <| ov [500] (op_assign q0) .nil) fun _ a w h => ?_
        refine regS mixed hn hG h [0, 1, 2, 3, 5, 6, 500, 7, 8, 9, 10, 11] (ov [4] (op_move q0) <| ov [3] (op_indexAddr_lb Tryz.underlying127 Tryz.sizeOf31 q0 qi (by decide)) <| ov [500, 11] (op_load_lbI (i := 1) [] [] 1 Tryz.isAgg31 q0 rfl rfl (by decide)) <| ov [502, 500] (op_bin bin_and q0 q1) <| ov [4] (op_move q0) <| ov [3] (op_indexAddr_lb Tryz.underlying127 Tryz.sizeOf31 q0 qi (by decide)) <| ov [500, 11] (op_load_lbI (i := 2) [] [] 1 Tryz.isAgg31 q0 rfl rfl (by decide)) <| ov [502, 500] (op_bin bin_and q0 q1) <| ov [504, 500] (op_bin bin_xor q0 q1) <| ov [3] (op_indexAddr_lb Tryz.underlying127 Tryz.sizeOf31 q0 qi (by decide)) <| ov [500, 11] (op_load_lbI (i := 1) [] [] 1 Tryz.isAgg31 q0 rfl rfl (by decide)) <| ov [3] (op_indexAddr_lb Tryz.underlying127 Tryz.sizeOf31 q0 qi (by decide)) <| ov [500, 11] (op_load_lbI (i := 2) [] [] 1 Tryz.isAgg31 q0 rfl rfl (by decide)) <| ov [502, 500] (op_bin bin_and q0 q1) <| ov [505, 500] (op_bin bin_xor q0 q1) <| ov [500] (op_assign q0) .nil) fun _ a w h => ?_
        refine regS mixed hn hG h [0, 1, 2, 3, 4, 5, 6, 7, 8, 9, 10, 500] (ov [3] (op_slice_lb (a := 1) (b := 8) Tryz.underlying127 Tryz.sizeOf31 q0 ⟨_, qi⟩ rfl (by decide)) <| ov [3] (op_slice_lb (a := 0) (b := 7) Tryz.underlying127 Tryz.sizeOf31 q0 rfl ⟨_, qi⟩ (by decide)) <| oe [501, 500] [11] (GOk.plain (op_copy_lb (i := (1 : Int).toNat) (j := (0 : Int).toNat) [] [] Tryz.underlying180 rfl q0 q1 (by rfl) (by rfl) (by decide) (by decide)) rfl) .nil) fun _ a w h => ?_
        refine regS mixed hn hG h [0, 1, 2, 3, 4, 5, 6, 7, 8, 9, 10, 500] (ov [3] (op_indexAddr_lb Tryz.underlying127 Tryz.sizeOf31 q0 qi (by decide)) <| ov [500, 11] (op_load_lbI (i := 4) [] [] 1 Tryz.isAgg31 q0 rfl rfl (by decide)) <| ov [4] (op_move q0) <| ov [501, 500] (op_bin bin_add q0 q1) <| ov [3] (op_indexAddr_lb Tryz.underlying127 Tryz.sizeOf31 q0 qi (by decide)) <| ou [500, 501] 11 (op_store_lbI (i := 4) [] [] Tryz.sizeOf31 q0 q1 rfl (by decide)) .nil) fun _ a w h => ?_
        refine reg mixed hn hG h [0, 1, 2, 3, 7, 8, 9, 10, 500] (ov [4] (op_move q0) <| ov [5] (op_move q0) <| ov [501, 500] (op_bin bin_add q0 q1) <| ov [6] (op_move q0) <| ov [501, 500] (op_bin bin_add q0 q1) <| ov [3] (op_indexAddr_lb Tryz.underlying127 Tryz.sizeOf31 q0 qi (by decide)) <| ou [500, 501] 11 (op_store_lbI (i := 0) [] [] Tryz.sizeOf31 q0 q1 rfl (by decide)) .nil) fun _ a w h => ?_
        show Code.wp Tryz.prog _ _ a w
        refine reg mixed hn hG h [0, 1, 2, 3, 500, 5, 6, 7, 8] (ov [4] (op_bin bin_add q0 qi) <| od [500] 4 (op_move q0) .nil) fun _ a w h => ?_
        obtain rfl := Option.some.inj hF
        exact ⟨rfl, h.sub [0, 1, 2, 3, 4, 5, 6, 7, 8] (by rfl)⟩
      · refine wp_exit ?_
        obtain rfl := Option.some.inj hF
        exact ⟨exit_ne _, rfl, h.sub [0, 1, 3, 5, 6, 8] (by rfl)⟩
    · clear hl35
      intro e a w hq
      cases cr34 with
      | ret r36 =>
        obtain ⟨rfl, hq⟩ := hq
        obtain rfl := Option.some.inj hF
        exact ⟨.inl rfl, hq⟩
      | next s37 =>
        obtain ⟨y38, y39⟩ := s37
        obtain ⟨rfl, h⟩ := hq
        change SatL c [.slot 2 (lpVP (b1 0) 0), .slot 4 (lpVP (b1 1) 0), .slot 6 (lpVP (b6 1) 0), .res (lb (b1 0) 127 [intsCk .u32 8 a_0]), .res (lb (b1 1) 127 [intsCk .u32 8 (List.replicate 8 0)]), .res (lb (b6 1) 127 [intsCk .u32 8 y39])] a w at h
        refine inBlock_at ?_
        show Code.wp Tryz.prog _ _ a w
        refine wp_seq ?_
        refine regS mixed hn hG h [0, 1, 2, 500, 3, 4, 5] (ov [] (op_move qi) .nil) fun _ a w h => ?_
        refine wp_block ?_
        obtain ⟨cr49, hl50, hF⟩ := bind_some hF
        refine wp_mono (wp_loopN (R := (List Int)) (S := Int × (List Int)) (fun s a w => SatL c [.slot 2 (lpVP (b1 0) 0), .slot 4 (lpVP (b1 1) 0), .slot 6 (lpVP (b6 1) 0), .slot 100 (intVP .i64 s.1), .res (lb (b1 0) 127 [intsCk .u32 8 a_0]), .res (lb (b1 1) 127 [intsCk .u32 8 (List.replicate 8 0)]), .res (lb (b6 1) 127 [intsCk .u32 8 s.2])] a w) (fun res e a w => match res with | .next s => e = .exit 2 ∧ SatL c [.slot 4 (lpVP (b1 1) 0), .slot 6 (lpVP (b6 1) 0), .res (lb (b1 1) 127 [intsCk .u32 8 (List.replicate 8 0)]), .res (lb (b6 1) 127 [intsCk .u32 8 s.2])] a w | .ret r => e = .ret ∧ RetOk Tryz.prog Tryz.f94 c (aggVP [intsCk .u32 8 r]) (fun _ => []) a w) ?_ _ (0, y39) _ _ _ (h.sub [0, 1, 2, 3, 4, 5, 6] (by rfl)) hl50) ?_
        · clear hl50 hF h
          intro s a w o h hF
          obtain ⟨x41, x42⟩ := s
          change sha_Block.b2 a_0 x41 x42 = some o at hF
          unfold sha_Block.b2 at hF
          change SatL c [.slot 2 (lpVP (b1 0) 0), .slot 4 (lpVP (b1 1) 0), .slot 6 (lpVP (b6 1) 0), .slot 100 (intVP .i64 x41), .res (lb (b1 0) 127 [intsCk .u32 8 a_0]), .res (lb (b1 1) 127 [intsCk .u32 8 (List.replicate 8 0)]), .res (lb (b6 1) 127 [intsCk .u32 8 x42])] a w at h
          refine regS mixed hn hG h [0, 1, 2, 3, 500, 4, 5, 6] (ov [3] (op_bin bin_lss q0 qi) .nil) fun _ a w h => ?_
          refine wp_seq ?_
          refine cnd h hF 4 [0, 1, 2, 3, 5, 6, 7] [0, 1, 2, 3, 5, 6, 7] (fun hb47 hF h => ?_) (fun hb47 hF h => ?_)
          · refine wp_skip ?_
            show Code.wp Tryz.prog _ _ a w
            refine wp_seq ?_
            refine wp_block ?_
            refine regS mixed hn hG h [0, 1, 2, 500, 3, 4, 5, 6] (ov [3] (op_move q0) <| ov [500] (op_assign q0) .nil) fun _ a w h => ?_
            obtain ⟨hv48, hF⟩ := ite_some hF
            refine reg mixed hn hG h [0, 1, 2, 4, 5, 6, 500] (ov [3] (op_move q0) <| ov [2, 500] (op_indexAddr_lb Tryz.underlying127 Tryz.sizeOf31 q0 q1 hv48) <| ov [500, 7] (op_load_lbI (i := x41) [] [] 1 Tryz.isAgg31 q0 rfl rfl hv48) <| ov [3] (op_move q0) <| ov [0, 500] (op_indexAddr_lb Tryz.underlying127 Tryz.sizeOf31 q0 q1 hv48) <| ov [500, 5] (op_load_lbI (i := x41) [] [] 1 Tryz.isAgg31 q0 rfl rfl hv48) <| ov [503, 500] (op_bin bin_add q0 q1) <| ov [2, 506] (op_indexAddr_lb Tryz.underlying127 Tryz.sizeOf31 q0 q1 hv48) <| ou [500, 501] 7 (op_store_lbI (i := x41) [] [] Tryz.sizeOf31 q0 q1 rfl hv48) .nil) fun _ a w h => ?_
            show Code.wp Tryz.prog _ _ a w
            refine reg mixed hn hG h [0, 1, 2, 500, 4, 5, 6] (ov [3] (op_bin bin_add q0 qi) <| od [500] 3 (op_move q0) .nil) fun _ a w h => ?_
            obtain rfl := Option.some.inj hF
            exact ⟨rfl, h.sub [0, 1, 2, 3, 4, 5, 6] (by rfl)⟩
          · refine wp_exit ?_
            obtain rfl := Option.some.inj hF
            exact ⟨exit_ne _, rfl, h.sub [1, 2, 5, 6] (by rfl)⟩
        · clear hl50
          intro e a w hq
          cases cr49 with
          | ret r51 =>
            obtain ⟨rfl, hq⟩ := hq
            obtain rfl := Option.some.inj hF
            exact ⟨.inl rfl, hq⟩
          | next s52 =>
            obtain ⟨y53, y54⟩ := s52
            obtain ⟨rfl, h⟩ := hq
            change SatL c [.slot 4 (lpVP (b1 1) 0), .slot 6 (lpVP (b6 1) 0), .res (lb (b1 1) 127 [intsCk .u32 8 (List.replicate 8 0)]), .res (lb (b6 1) 127 [intsCk .u32 8 y54])] a w at h
            refine inBlock_at ?_
            show Code.wp Tryz.prog _ _ a w
            refine regS mixed hn hG h [0, 500] (ov [1, 3] (op_load_w 1 Tryz.isAgg127 Tryz.sizeOf127 q0) <| ou [0, 500] 2 (op_store_w Tryz.sizeOf127 q0 q1 (cells_agg _)) .nil) fun _ a w h => ?_
            refine wp_ret ?_
            obtain rfl := Option.some.inj hF
            exact ⟨.inl rfl, ret1 h Tryz.results94 (r_cell 0 1 rfl rfl Tryz.isAgg127 Tryz.sizeOf127 rfl) [] [] rfl rfl rfl⟩

def sha_State_Add.b1 (x8 : List UInt8) (x9 : S_sha_State) : Option (Flow S_sha_State ((List UInt8) × S_sha_State)) := (if (decide ((64 : Int) ≤ (x8.length : Int))) = true then (if (0 : Int) ≤ 0 ∧ (0 : Int) ≤ 64 ∧ (64 : Int) ≤ x8.length then ((sha_Block x9.f_Words ((x8.take 64).drop (0 : Int).toNat)).bind fun r18 => (if (0 : Int) ≤ 64 ∧ (64 : Int) ≤ (x8.length : Int) ∧ (x8.length : Int) ≤ x8.length then some (.cont ((x8.take (x8.length : Int).toNat).drop 64, (S_sha_State.mk r18 x9.f_Rest x9.f_Count))) else none)) else none) else some (.brk (x8, x9)))
def sha_State_Add (a_0 : S_sha_State) (a_1 : List UInt8) : Option S_sha_State := (if a_0.f_Rest.length + a_1.length ≤ mxl then ((loopN (fun s : (List UInt8) × S_sha_State => sha_State_Add.b1 s.1 s.2) ((((a_0.f_Rest ++ a_1).length : Int) - 64 : Int).toNat + 2) (a_0.f_Rest ++ a_1, (S_sha_State.mk a_0.f_Words a_0.f_Rest (IntKind.wrap .u64 (a_0.f_Count + (IntKind.wrap .u64 (a_1.length : Int))))))).bind fun cr => match cr with | .ret r => some r | .next (y24, y25) => some (S_sha_State.mk y25.f_Words y24 y25.f_Count)) else none)
theorem sha_State_Add_ok {a_0 : S_sha_State} {a_1 : List UInt8} {r : S_sha_State} (hF : sha_State_Add a_0 a_1 = some r) : CallOk Tryz.prog KG 85 [(aggVP [intsCk .u32 8 a_0.f_Words, one (strVP a_0.f_Rest), one (intVP .u64 a_0.f_Count)]), (strVP a_1)] [] (fun _ => []) (aggVP [intsCk .u32 8 r.f_Words, one (strVP r.f_Rest), one (intVP .u64 r.f_Count)]) := by
  refine CallOk.intro 31 Tryz.func85 rfl Tryz.ntmps85 (Nat.le_of_ble_eq_true rfl) ?_
  intro c a w hG hn h
  unfold sha_State_Add at hF
  change SatL c [.slot 0 (aggVP [intsCk .u32 8 a_0.f_Words, one (strVP a_0.f_Rest), one (intVP .u64 a_0.f_Count)]), .slot 1 (strVP a_1)] a w at h
  refine regS mixed hn hG h [1, 503, 501, 502, 500] (ob [0] (op_box q0 (cells_agg _)) <| ob [] (op_alloc Tryz.zeroValue156 z156) .nil) fun b1 a w h => ?_
  refine regS mixed hn hG h [0, 1, 2, 500, 4] (ov [1] (op_fieldAddr_lbm (p := (b1 0)) (n := 1) 0 9 Tryz.underlying156 rfl Tryz.sizeOf32 (by decide) q0 rfl) <| ov [500, 3] (op_load_lb1 [intsCk .u32 8 a_0.f_Words, one (strVP a_0.f_Rest)] [] 1 Tryz.isAgg32 q0 rfl rfl) <| ov [0] (op_move q0) <| ov [500] (op_len_str Tryz.underlying9 q0) <| ov [500] (op_convert_int Tryz.underlying3 Tryz.underlying32 q0) <| ov [503, 500] (op_bin bin_add q0 q1) <| ov [1] (op_fieldAddr_lbm (p := (b1 0)) (n := 1) 0 9 Tryz.underlying156 rfl Tryz.sizeOf32 (by decide) q0 rfl) <| ou [500, 501] 3 (op_store_lb [intsCk .u32 8 a_0.f_Words, one (strVP a_0.f_Rest)] [one (intVP .u64 a_0.f_Count)] [] [one (intVP .u64 (IntKind.wrap .u64 (a_0.f_Count + (IntKind.wrap .u64 (a_1.length : Int)))))] Tryz.sizeOf32 q0 q1 (cells_one (one_int _ _)) rfl rfl rfl) .nil) fun _ a w h => ?_
  obtain ⟨hv3, hF⟩ := ite_some hF
  refine regS mixed hn hG h [1, 2, 500, 3, 4] (ov [1] (op_fieldAddr_lbm (p := (b1 0)) (n := 1) 0 8 Tryz.underlying156 rfl Tryz.sizeOf9 (by decide) q0 rfl) <| ov [500, 3] (op_load_lb1 [intsCk .u32 8 a_0.f_Words] [one (intVP .u64 (IntKind.wrap .u64 (a_0.f_Count + (IntKind.wrap .u64 (a_1.length : Int)))))] 1 Tryz.isAgg9 q0 rfl rfl) <| ov [0] (op_move q0) <| ov [501, 500] (op_bin (bin_sadd hv3) q0 q1) <| ov [500] (op_assign q0) .nil) fun _ a w h => ?_
  refine wp_seq ?_
  refine wp_block ?_
  obtain ⟨cr20, hl21, hF⟩ := bind_some hF
  refine wp_mono (wp_loopN (R := S_sha_State) (S := (List UInt8) × S_sha_State) (fun s a w => SatL c [.slot 2 (lpVP (b1 0) 0), .slot 4 (lpVP (b1 1) 0), .slot 5 (strVP s.1), .res (lb (b1 0) 156 [intsCk .u32 8 s.2.f_Words, one (strVP s.2.f_Rest), one (intVP .u64 s.2.f_Count)]), .res (lb (b1 1) 156 [intsCk .u32 8 ((S_sha_State.mk (List.replicate 8 0) [] (0 : Int)).f_Words), one (strVP ((S_sha_State.mk (List.replicate 8 0) [] (0 : Int)).f_Rest)), one (intVP .u64 ((S_sha_State.mk (List.replicate 8 0) [] (0 : Int)).f_Count))])] a w) (fun res e a w => match res with | .next s => e = .exit 0 ∧ SatL c [.slot 2 (lpVP (b1 0) 0), .slot 4 (lpVP (b1 1) 0), .slot 5 (strVP s.1), .res (lb (b1 0) 156 [intsCk .u32 8 s.2.f_Words, one (strVP s.2.f_Rest), one (intVP .u64 s.2.f_Count)]), .res (lb (b1 1) 156 [intsCk .u32 8 ((S_sha_State.mk (List.replicate 8 0) [] (0 : Int)).f_Words), one (strVP ((S_sha_State.mk (List.replicate 8 0) [] (0 : Int)).f_Rest)), one (intVP .u64 ((S_sha_State.mk (List.replicate 8 0) [] (0 : Int)).f_Count))])] a w | .ret r => e = .ret ∧ RetOk Tryz.prog Tryz.f85 c (aggVP [intsCk .u32 8 r.f_Words, one (strVP r.f_Rest), one (intVP .u64 r.f_Count)]) (fun _ => []) a w) ?_ _ (a_0.f_Rest ++ a_1, (S_sha_State.mk a_0.f_Words a_0.f_Rest (IntKind.wrap .u64 (a_0.f_Count + (IntKind.wrap .u64 (a_1.length : Int)))))) _ _ _ (h.sub [0, 1, 2, 3, 4] (by rfl)) hl21) ?_
  · clear hl21 hF h
    intro s a w o h hF
    obtain ⟨x8, x9⟩ := s
    change sha_State_Add.b1 x8 x9 = some o at hF
    unfold sha_State_Add.b1 at hF
    change SatL c [.slot 2 (lpVP (b1 0) 0), .slot 4 (lpVP (b1 1) 0), .slot 5 (strVP x8), .res (lb (b1 0) 156 [intsCk .u32 8 x9.f_Words, one (strVP x9.f_Rest), one (intVP .u64 x9.f_Count)]), .res (lb (b1 1) 156 [intsCk .u32 8 ((S_sha_State.mk (List.replicate 8 0) [] (0 : Int)).f_Words), one (strVP ((S_sha_State.mk (List.replicate 8 0) [] (0 : Int)).f_Rest)), one (intVP .u64 ((S_sha_State.mk (List.replicate 8 0) [] (0 : Int)).f_Count))])] a w at h
    refine wp_seq ?_
    refine regS mixed hn hG h [0, 1, 2, 500, 3, 4] (ov [2] (op_move q0) <| ov [500] (op_len_str Tryz.underlying9 q0) <| ov [500] (op_bin bin_geq q0 qi) .nil) fun _ a w h => ?_
    refine cnd h hF 3 [0, 1, 2, 4, 5] [0, 1, 2, 4, 5] (fun hb16 hF h => ?_) (fun hb16 hF h => ?_)
    · refine wp_skip ?_
      show Code.wp Tryz.prog _ _ a w
      refine wp_block ?_
      obtain ⟨hv17, hF⟩ := ite_some hF
      obtain ⟨r18, hr18, hF⟩ := bind_some hF
      refine regS mixed hn hG h [0, 1, 2, 500, 4] (ov [0] (op_fieldAddr_lbm (p := (b1 0)) (n := 8) 0 0 Tryz.underlying156 rfl Tryz.sizeOf127 (by decide) q0 rfl) <| ov [500, 3] (op_load_lb [] [intsCk .u32 8 x9.f_Words] [one (strVP x9.f_Rest), one (intVP .u64 x9.f_Count)] 1 Tryz.isAgg127 Tryz.sizeOf127 q0 rfl rfl rfl) <| ov [2] (op_move q0) <| ov [500] (op_slice_str (a := 0) (b := 64) Tryz.underlying9 q0 rfl ⟨_, qi⟩ hv17) <| oc [502, 500] [] Tryz.call94 (sha_Block_ok hr18) ⟨q0, q1, trivial⟩ <| ov [0] (op_fieldAddr_lbm (p := (b1 0)) (n := 8) 0 0 Tryz.underlying156 rfl Tryz.sizeOf127 (by decide) q0 rfl) <| ou [500, 501] 3 (op_store_lb [] [intsCk .u32 8 x9.f_Words] [one (strVP x9.f_Rest), one (intVP .u64 x9.f_Count)] [intsCk .u32 8 r18] Tryz.sizeOf127 q0 q1 (cells_agg _) rfl rfl rfl) .nil) fun _ a w h => ?_
      obtain ⟨hv19, hF⟩ := ite_some hF
      refine reg mixed hn hG h [0, 1, 500, 3, 4] (ov [2] (op_move q0) <| ov [500] (op_slice_str (a := 64) (b := (x8.length : Int)) Tryz.underlying9 q0 ⟨_, qi⟩ rfl hv19) <| od [500] 2 (op_assign q0) .nil) fun _ a w h => ?_
      obtain rfl := Option.some.inj hF
      exact ⟨rfl, h.sub [0, 1, 2, 3, 4] (by rfl)⟩
    · refine wp_exit ?_
      obtain rfl := Option.some.inj hF
      exact ⟨exit_ne _, rfl, h.sub [0, 1, 2, 3, 4] (by rfl)⟩
  · clear hl21
    intro e a w hq
    cases cr20 with
    | ret r22 =>
      obtain ⟨rfl, hq⟩ := hq
      obtain rfl := Option.some.inj hF
      exact ⟨.inl rfl, hq⟩
    | next s23 =>
      obtain ⟨y24, y25⟩ := s23
      obtain ⟨rfl, h⟩ := hq
      change SatL c [.slot 2 (lpVP (b1 0) 0), .slot 4 (lpVP (b1 1) 0), .slot 5 (strVP y24), .res (lb (b1 0) 156 [intsCk .u32 8 y25.f_Words, one (strVP y25.f_Rest), one (intVP .u64 y25.f_Count)]), .res (lb (b1 1) 156 [intsCk .u32 8 ((S_sha_State.mk (List.replicate 8 0) [] (0 : Int)).f_Words), one (strVP ((S_sha_State.mk (List.replicate 8 0) [] (0 : Int)).f_Rest)), one (intVP .u64 ((S_sha_State.mk (List.replicate 8 0) [] (0 : Int)).f_Count))])] a w at h
      refine inBlock_at ?_
      show Code.wp Tryz.prog _ _ a w
      refine regS mixed hn hG h [0, 1, 500, 4] (ov [2] (op_move q0) <| ov [0] (op_fieldAddr_lbm (p := (b1 0)) (n := 1) 0 8 Tryz.underlying156 rfl Tryz.sizeOf9 (by decide) q0 rfl) <| ou [500, 501] 3 (op_store_lb [intsCk .u32 8 y25.f_Words] [one (strVP y25.f_Rest)] [one (intVP .u64 y25.f_Count)] [one (strVP y24)] Tryz.sizeOf9 q0 q1 (cells_one (one_str _)) rfl rfl rfl) .nil) fun _ a w h => ?_
      refine regS mixed hn hG h [1, 500] (ov [0, 2] (op_load_w 1 Tryz.isAgg156 Tryz.sizeOf156 q0) <| ou [1, 500] 3 (op_store_w Tryz.sizeOf156 q0 q1 (cells_agg _)) .nil) fun _ a w h => ?_
      refine wp_ret ?_
      obtain rfl := Option.some.inj hF
      exact ⟨.inl rfl, ret1 h Tryz.results85 (r_cell 0 1 rfl rfl Tryz.isAgg156 Tryz.sizeOf156 rfl) [] [] rfl rfl rfl⟩

def sha_State_End.b1 (a_0 : S_sha_State) (x6 : Int) (x7 : List UInt8) : Option (Flow (List UInt8) (Int × (List UInt8))) := (if (decide (x6 < (8 : Int))) = true then (if (0 : Int) ≤ IntKind.wrap .i64 (56 - (IntKind.wrap .i64 (8 * x6))) then (if (0 : Int) ≤ x6 ∧ x6 < 8 then some (.cont (IntKind.wrap .i64 (x6 + 1), x7.set x6.toNat (u8of (IntKind.wrap .u8 (shr .u64 (IntKind.wrap .u64 (8 * a_0.f_Count)) (IntKind.wrap .i64 (56 - (IntKind.wrap .i64 (8 * x6))))))))) else none) else none) else some (.brk (x6, x7)))
def sha_State_End.b3 (r25 : S_sha_State) (x38 : Int) (x59 : Int) (x60 : List UInt8) : Option (Flow (List UInt8) (Int × (List UInt8))) := (if (decide (x59 < (4 : Int))) = true then (if (0 : Int) ≤ IntKind.wrap .i64 (24 - (IntKind.wrap .i64 (8 * x59))) then (if (0 : Int) ≤ IntKind.wrap .i64 ((IntKind.wrap .i64 (4 * x38)) + x59) ∧ IntKind.wrap .i64 ((IntKind.wrap .i64 (4 * x38)) + x59) < 32 then some (.cont (IntKind.wrap .i64 (x59 + 1), x60.set (IntKind.wrap .i64 ((IntKind.wrap .i64 (4 * x38)) + x59)).toNat (u8of (IntKind.wrap .u8 (shr .u32 (r25.f_Words.getD x38.toNat 0) (IntKind.wrap .i64 (24 - (IntKind.wrap .i64 (8 * x59))))))))) else none) else none) else some (.brk (x59, x60)))
def sha_State_End.b2 (r25 : S_sha_State) (x38 : Int) (x39 : List UInt8) : Option (Flow (List UInt8) (Int × (List UInt8))) := (if (decide (x38 < (8 : Int))) = true then (if (0 : Int) ≤ x38 ∧ x38 < 8 then ((loopN (fun s : Int × (List UInt8) => sha_State_End.b3 r25 x38 s.1 s.2) ((4 - 0 : Int).toNat + 2) (0, x39)).bind fun cr => match cr with | .ret r => some (.ret r) | .next (y73, y74) => some (.cont (IntKind.wrap .i64 (x38 + 1), y74))) else none) else some (.brk (x38, x39)))
def sha_State_End (a_0 : S_sha_State) : Option (List UInt8) := ((loopN (fun s : Int × (List UInt8) => sha_State_End.b1 a_0 s.1 s.2) ((8 - 0 : Int).toNat + 2) (0, (List.replicate 8 0))).bind fun cr => match cr with | .ret r => some r | .next (y20, y21) => (if (0 : Int) ≤ (IntKind.wrap .i64 (119 - ((a_0.f_Rest.length : Int).tmod 64))).tmod 64 ∧ [0].length * ((IntKind.wrap .i64 (119 - ((a_0.f_Rest.length : Int).tmod 64))).tmod 64 : Int).toNat ≤ 140737488355328 then (if [128].length + (Lib.repeatL [0] ((IntKind.wrap .i64 (119 - ((a_0.f_Rest.length : Int).tmod 64))).tmod 64 : Int).toNat).length ≤ mxl then (if ([128] ++ (Lib.repeatL [0] ((IntKind.wrap .i64 (119 - ((a_0.f_Rest.length : Int).tmod 64))).tmod 64 : Int).toNat)).length + (y21.take ((8 : Int).toNat - (0 : Int).toNat)).length ≤ mxl then ((sha_State_Add a_0 (([128] ++ (Lib.repeatL [0] ((IntKind.wrap .i64 (119 - ((a_0.f_Rest.length : Int).tmod 64))).tmod 64 : Int).toNat)) ++ (y21.take ((8 : Int).toNat - (0 : Int).toNat)))).bind fun r25 => ((loopN (fun s : Int × (List UInt8) => sha_State_End.b2 r25 s.1 s.2) ((8 - 0 : Int).toNat + 2) (0, (List.replicate 32 0))).bind fun cr => match cr with | .ret r => some r | .next (y79, y80) => some y80)) else none) else none) else none))
theorem sha_State_End_ok {a_0 : S_sha_State} {r : (List UInt8)} (hF : sha_State_End a_0 = some r) : CallOk Tryz.prog KG 86 [(aggVP [intsCk .u32 8 a_0.f_Words, one (strVP a_0.f_Rest), one (intVP .u64 a_0.f_Count)])] [] (fun _ => []) (aggVP [bytesCk 32 r]) := by
  refine CallOk.intro 63 Tryz.func86 rfl Tryz.ntmps86 (Nat.le_of_ble_eq_true rfl) ?_
  intro c a w hG hn h
  unfold sha_State_End at hF
  change SatL c [.slot 0 (aggVP [intsCk .u32 8 a_0.f_Words, one (strVP a_0.f_Rest), one (intVP .u64 a_0.f_Count)])] a w at h
  refine regS mixed hn hG h [503, 501, 502, 500] (ob [0] (op_box q0 (cells_agg _)) <| ob [] (op_alloc Tryz.zeroValue23 z23) .nil) fun b1 a w h => ?_
  refine regS mixed hn hG h [0, 1, 500, 2, 3] (ov [0] (op_fieldAddr_lbm (p := (b1 0)) (n := 1) 0 9 Tryz.underlying156 rfl Tryz.sizeOf32 (by decide) q0 rfl) <| ov [500, 2] (op_load_lb1 [intsCk .u32 8 a_0.f_Words, one (strVP a_0.f_Rest)] [] 1 Tryz.isAgg32 q0 rfl rfl) <| ov [500] (op_bin bin_mul qi q0) <| ov [500] (op_assign q0) .nil) fun _ a w h => ?_
  refine regS mixed hn hG h [0, 1, 2, 500, 3, 4] (ov [0] (op_fieldAddr_lbm (p := (b1 0)) (n := 1) 0 8 Tryz.underlying156 rfl Tryz.sizeOf9 (by decide) q0 rfl) <| ov [500, 3] (op_load_lb1 [intsCk .u32 8 a_0.f_Words] [one (intVP .u64 a_0.f_Count)] 1 Tryz.isAgg9 q0 rfl rfl) <| ov [500] (op_len_str Tryz.underlying9 q0) <| ov [500] (op_bin (bin_rem (by decide)) q0 qi) <| ov [500] (op_bin bin_sub qi q0) <| ov [500] (op_bin (bin_rem (by decide)) q0 qi) <| ov [500] (op_assign q0) .nil) fun _ a w h => ?_
  refine regS mixed hn hG h [0, 1, 2, 3, 501, 4, 5, 500] (ob [] (op_alloc Tryz.zeroValue135 z135) .nil) fun b3 a w h => ?_
  refine wp_seq ?_
  refine regS mixed hn hG h [0, 1, 2, 3, 4, 500, 5, 6, 7] (ov [] (op_move qi) .nil) fun _ a w h => ?_
  refine wp_block ?_
  obtain ⟨cr16, hl17, hF⟩ := bind_some hF
  refine wp_mono (wp_loopN (R := (List UInt8)) (S := Int × (List UInt8)) (fun s a w => SatL c [.slot 1 (lpVP (b1 0) 0), .slot 2 (lpVP (b1 1) 0), .slot 3 (intVP .u64 (IntKind.wrap .u64 (8 * a_0.f_Count))), .slot 4 (intVP .i64 ((IntKind.wrap .i64 (119 - ((a_0.f_Rest.length : Int).tmod 64))).tmod 64)), .slot 5 (lpVP (b3 0) 0), .slot 20 (intVP .i64 s.1), .res (lb (b1 0) 156 [intsCk .u32 8 a_0.f_Words, one (strVP a_0.f_Rest), one (intVP .u64 a_0.f_Count)]), .res (lb (b1 1) 23 [bytesCk 32 (List.replicate 32 0)]), .res (lb (b3 0) 135 [bytesCk 8 s.2])] a w) (fun res e a w => match res with | .next s => e = .exit 0 ∧ SatL c [.slot 1 (lpVP (b1 0) 0), .slot 2 (lpVP (b1 1) 0), .slot 4 (intVP .i64 ((IntKind.wrap .i64 (119 - ((a_0.f_Rest.length : Int).tmod 64))).tmod 64)), .slot 5 (lpVP (b3 0) 0), .res (lb (b1 0) 156 [intsCk .u32 8 a_0.f_Words, one (strVP a_0.f_Rest), one (intVP .u64 a_0.f_Count)]), .res (lb (b1 1) 23 [bytesCk 32 (List.replicate 32 0)]), .res (lb (b3 0) 135 [bytesCk 8 s.2])] a w | .ret r => e = .ret ∧ RetOk Tryz.prog Tryz.f86 c (aggVP [bytesCk 32 r]) (fun _ => []) a w) ?_ _ (0, (List.replicate 8 0)) _ _ _ (h.sub [0, 1, 2, 3, 4, 5, 6, 7, 8] (by rfl)) hl17) ?_
  · clear hl17 hF h
    intro s a w o h hF
    obtain ⟨x6, x7⟩ := s
    change sha_State_End.b1 a_0 x6 x7 = some o at hF
    unfold sha_State_End.b1 at hF
    change SatL c [.slot 1 (lpVP (b1 0) 0), .slot 2 (lpVP (b1 1) 0), .slot 3 (intVP .u64 (IntKind.wrap .u64 (8 * a_0.f_Count))), .slot 4 (intVP .i64 ((IntKind.wrap .i64 (119 - ((a_0.f_Rest.length : Int).tmod 64))).tmod 64)), .slot 5 (lpVP (b3 0) 0), .slot 20 (intVP .i64 x6), .res (lb (b1 0) 156 [intsCk .u32 8 a_0.f_Words, one (strVP a_0.f_Rest), one (intVP .u64 a_0.f_Count)]), .res (lb (b1 1) 23 [bytesCk 32 (List.replicate 32 0)]), .res (lb (b3 0) 135 [bytesCk 8 x7])] a w at h
    refine regS mixed hn hG h [0, 1, 2, 3, 4, 5, 500, 6, 7, 8] (ov [5] (op_bin bin_lss q0 qi) .nil) fun _ a w h => ?_
    refine wp_seq ?_
    refine cnd h hF 6 [0, 1, 2, 3, 4, 5, 7, 8, 9] [0, 1, 2, 3, 4, 5, 7, 8, 9] (fun hb13 hF h => ?_) (fun hb13 hF h => ?_)
    · refine wp_skip ?_
      show Code.wp Tryz.prog _ _ a w
      refine wp_seq ?_
      refine wp_block ?_
      refine regS mixed hn hG h [0, 1, 2, 3, 4, 500, 5, 6, 7, 8] (ov [5] (op_move q0) <| ov [500] (op_assign q0) .nil) fun _ a w h => ?_
      obtain ⟨hv14, hF⟩ := ite_some hF
      obtain ⟨hv15, hF⟩ := ite_some hF
      refine reg mixed hn hG h [0, 1, 2, 3, 4, 6, 7, 8, 500] (ov [5] (op_move q0) <| ov [2] (op_move q0) <| ov [5] (op_move q0) <| ov [500] (op_bin bin_mul qi q0) <| ov [500] (op_bin bin_sub qi q0) <| ov [503, 500] (op_bin (bin_shr hv14) q0 q1) <| ov [500] (op_convert_int Tryz.underlying32 Tryz.underlying5 q0) <| ov [4, 506] (op_indexAddr_lb Tryz.underlying135 Tryz.sizeOf5 q0 q1 hv15) <| ou [500, 501] 9 (op_store_lbB (i := x6) [] [] Tryz.sizeOf5 q0 q1 rfl hv15) .nil) fun _ a w h => ?_
      show Code.wp Tryz.prog _ _ a w
      refine reg mixed hn hG h [0, 1, 2, 3, 4, 500, 6, 7, 8] (ov [5] (op_bin bin_add q0 qi) <| od [500] 5 (op_move q0) .nil) fun _ a w h => ?_
      obtain rfl := Option.some.inj hF
      exact ⟨rfl, h.sub [0, 1, 2, 3, 4, 5, 6, 7, 8] (by rfl)⟩
    · refine wp_exit ?_
      obtain rfl := Option.some.inj hF
      exact ⟨exit_ne _, rfl, h.sub [0, 1, 3, 4, 6, 7, 8] (by rfl)⟩
  · clear hl17
    intro e a w hq
    cases cr16 with
    | ret r18 =>
      obtain ⟨rfl, hq⟩ := hq
      obtain rfl := Option.some.inj hF
      exact ⟨.inl rfl, hq⟩
    | next s19 =>
      obtain ⟨y20, y21⟩ := s19
      obtain ⟨rfl, h⟩ := hq
      change SatL c [.slot 1 (lpVP (b1 0) 0), .slot 2 (lpVP (b1 1) 0), .slot 4 (intVP .i64 ((IntKind.wrap .i64 (119 - ((a_0.f_Rest.length : Int).tmod 64))).tmod 64)), .slot 5 (lpVP (b3 0) 0), .res (lb (b1 0) 156 [intsCk .u32 8 a_0.f_Words, one (strVP a_0.f_Rest), one (intVP .u64 a_0.f_Count)]), .res (lb (b1 1) 23 [bytesCk 32 (List.replicate 32 0)]), .res (lb (b3 0) 135 [bytesCk 8 y21])] a w at h
      refine inBlock_at ?_
      show Code.wp Tryz.prog _ _ a w
      obtain ⟨hv22, hF⟩ := ite_some hF
      obtain ⟨hv23, hF⟩ := ite_some hF
      obtain ⟨hv24, hF⟩ := ite_some hF
      obtain ⟨r25, hr25, hF⟩ := bind_some hF
      refine regS mixed hn hG h [0, 1, 500, 5] (ov [0, 4] (op_load_w 1 Tryz.isAgg156 Tryz.sizeOf156 q0) <| ov [2] (op_move q0) <| oc [500] [] Tryz.call95 (repeat_ok hv22) ⟨(opc (sc _ (by decide))), q0, trivial⟩ <| ov [500] (op_bin (bin_sadd hv23) (opc (sc _ (by decide))) q0) <| ov [3] (op_slice_lb (a := 0) (b := 8) Tryz.underlying135 Tryz.sizeOf5 q0 rfl rfl (by decide)) <| ov [500, 6] (op_str_lsl [] [] 1 Tryz.underlying119 Tryz.underlying5 Tryz.underlying9 q0 rfl rfl (by decide) (by decide)) <| ov [502, 500] (op_bin (bin_sadd hv24) q0 q1) <| oc [506, 500] [] Tryz.call85 (sha_State_Add_ok hr25) ⟨q0, q1, trivial⟩ <| ou [0, 500] 4 (op_store_w Tryz.sizeOf156 q0 q1 (cells_agg _)) .nil) fun _ a w h => ?_
      refine regS mixed hn hG h [0, 1, 501, 2, 3, 500] (ob [] (op_alloc Tryz.zeroValue23 z23) .nil) fun b26 a w h => ?_
      refine wp_seq ?_
      refine regS mixed hn hG h [1, 2, 501, 500, 4, 5] (ov [0] (op_fieldAddr_lbm (p := (b1 0)) (n := 8) 0 0 Tryz.underlying156 rfl Tryz.sizeOf127 (by decide) q0 rfl) <| ov [500, 3] (op_load_lb [] [intsCk .u32 8 r25.f_Words] [one (strVP r25.f_Rest), one (intVP .u64 r25.f_Count)] 1 Tryz.isAgg127 Tryz.sizeOf127 q0 rfl rfl rfl) <| ov [] (op_move qi) .nil) fun _ a w h => ?_
      refine wp_block ?_
      obtain ⟨cr75, hl76, hF⟩ := bind_some hF
      refine wp_mono (wp_loopN (R := (List UInt8)) (S := Int × (List UInt8)) (fun s a w => SatL c [.slot 2 (lpVP (b1 1) 0), .slot 7 (lpVP (b26 0) 0), .slot 41 (aggVP [intsCk .u32 8 r25.f_Words]), .slot 42 (intVP .i64 s.1), .res (lb (b1 1) 23 [bytesCk 32 (List.replicate 32 0)]), .res (lb (b26 0) 23 [bytesCk 32 s.2])] a w) (fun res e a w => match res with | .next s => e = .exit 2 ∧ SatL c [.slot 2 (lpVP (b1 1) 0), .slot 7 (lpVP (b26 0) 0), .res (lb (b1 1) 23 [bytesCk 32 (List.replicate 32 0)]), .res (lb (b26 0) 23 [bytesCk 32 s.2])] a w | .ret r => e = .ret ∧ RetOk Tryz.prog Tryz.f86 c (aggVP [bytesCk 32 r]) (fun _ => []) a w) ?_ _ (0, (List.replicate 32 0)) _ _ _ (h.sub [0, 1, 2, 3, 4, 5] (by rfl)) hl76) ?_
      · clear hl76 hF h
        intro s a w o h hF
        obtain ⟨x38, x39⟩ := s
        change sha_State_End.b2 r25 x38 x39 = some o at hF
        unfold sha_State_End.b2 at hF
        change SatL c [.slot 2 (lpVP (b1 1) 0), .slot 7 (lpVP (b26 0) 0), .slot 41 (aggVP [intsCk .u32 8 r25.f_Words]), .slot 42 (intVP .i64 x38), .res (lb (b1 1) 23 [bytesCk 32 (List.replicate 32 0)]), .res (lb (b26 0) 23 [bytesCk 32 x39])] a w at h
        refine regS mixed hn hG h [0, 1, 2, 3, 500, 4, 5] (ov [3] (op_bin bin_lss q0 qi) .nil) fun _ a w h => ?_
        refine wp_seq ?_
        refine cnd h hF 4 [0, 1, 2, 3, 5, 6] [0, 1, 2, 3, 5, 6] (fun hb54 hF h => ?_) (fun hb54 hF h => ?_)
        · refine wp_skip ?_
          show Code.wp Tryz.prog _ _ a w
          refine wp_seq ?_
          refine wp_block ?_
          obtain ⟨hv55, hF⟩ := ite_some hF
          refine regS mixed hn hG h [0, 1, 501, 500, 2, 3, 4, 5] (ov [3] (op_move q0) <| ov [2, 3] (op_index_aggI Tryz.underlying127 Tryz.sizeOf31 Tryz.isAgg31 q0 q1 hv55) <| ov [501] (op_assign q0) <| ov [501] (op_assign q0) .nil) fun _ a w h => ?_
          refine regS mixed hn hG h [0, 1, 2, 3, 4, 5, 500, 6, 7] (ov [] (op_move qi) .nil) fun _ a w h => ?_
          refine wp_block ?_
          obtain ⟨cr69, hl70, hF⟩ := bind_some hF
          refine wp_mono (wp_loopN (R := (List UInt8)) (S := Int × (List UInt8)) (fun s a w => SatL c [.slot 2 (lpVP (b1 1) 0), .slot 7 (lpVP (b26 0) 0), .slot 8 (intVP .i64 x38), .slot 9 (intVP .u32 (r25.f_Words.getD x38.toNat 0)), .slot 41 (aggVP [intsCk .u32 8 r25.f_Words]), .slot 42 (intVP .i64 x38), .slot 46 (intVP .i64 s.1), .res (lb (b1 1) 23 [bytesCk 32 (List.replicate 32 0)]), .res (lb (b26 0) 23 [bytesCk 32 s.2])] a w) (fun res e a w => match res with | .next s => e = .exit 4 ∧ SatL c [.slot 2 (lpVP (b1 1) 0), .slot 7 (lpVP (b26 0) 0), .slot 41 (aggVP [intsCk .u32 8 r25.f_Words]), .slot 42 (intVP .i64 x38), .res (lb (b1 1) 23 [bytesCk 32 (List.replicate 32 0)]), .res (lb (b26 0) 23 [bytesCk 32 s.2])] a w | .ret r => e = .ret ∧ RetOk Tryz.prog Tryz.f86 c (aggVP [bytesCk 32 r]) (fun _ => []) a w) ?_ _ (0, x39) _ _ _ (h.sub [0, 1, 2, 3, 4, 5, 6, 7, 8] (by rfl)) hl70) ?_
          · clear hl70 hF h
            intro s a w o h hF
            obtain ⟨x59, x60⟩ := s
            change sha_State_End.b3 r25 x38 x59 x60 = some o at hF
            unfold sha_State_End.b3 at hF
            change SatL c [.slot 2 (lpVP (b1 1) 0), .slot 7 (lpVP (b26 0) 0), .slot 8 (intVP .i64 x38), .slot 9 (intVP .u32 (r25.f_Words.getD x38.toNat 0)), .slot 41 (aggVP [intsCk .u32 8 r25.f_Words]), .slot 42 (intVP .i64 x38), .slot 46 (intVP .i64 x59), .res (lb (b1 1) 23 [bytesCk 32 (List.replicate 32 0)]), .res (lb (b26 0) 23 [bytesCk 32 x60])] a w at h
            refine regS mixed hn hG h [0, 1, 2, 3, 4, 5, 6, 500, 7, 8] (ov [6] (op_bin bin_lss q0 qi) .nil) fun _ a w h => ?_
            refine wp_seq ?_
            refine cnd h hF 7 [0, 1, 2, 3, 4, 5, 6, 8, 9] [0, 1, 2, 3, 4, 5, 6, 8, 9] (fun hb66 hF h => ?_) (fun hb66 hF h => ?_)
            · refine wp_skip ?_
              show Code.wp Tryz.prog _ _ a w
              refine wp_seq ?_
              refine wp_block ?_
              refine regS mixed hn hG h [0, 1, 2, 3, 500, 4, 5, 6, 7, 8] (ov [6] (op_move q0) <| ov [500] (op_assign q0) .nil) fun _ a w h => ?_
              obtain ⟨hv67, hF⟩ := ite_some hF
              obtain ⟨hv68, hF⟩ := ite_some hF
              refine reg mixed hn hG h [0, 1, 2, 3, 5, 6, 7, 8, 500] (ov [2] (op_move q0) <| ov [500] (op_bin bin_mul qi q0) <| ov [4] (op_move q0) <| ov [501, 500] (op_bin bin_add q0 q1) <| ov [3] (op_move q0) <| ov [4] (op_move q0) <| ov [500] (op_bin bin_mul qi q0) <| ov [500] (op_bin bin_sub qi q0) <| ov [503, 500] (op_bin (bin_shr hv67) q0 q1) <| ov [500] (op_convert_int Tryz.underlying31 Tryz.underlying5 q0) <| ov [1, 506] (op_indexAddr_lb Tryz.underlying23 Tryz.sizeOf5 q0 q1 hv68) <| ou [500, 501] 9 (op_store_lbB (i := IntKind.wrap .i64 ((IntKind.wrap .i64 (4 * x38)) + x59)) [] [] Tryz.sizeOf5 q0 q1 rfl hv68) .nil) fun _ a w h => ?_
              show Code.wp Tryz.prog _ _ a w
              refine reg mixed hn hG h [0, 1, 2, 3, 4, 5, 500, 7, 8] (ov [6] (op_bin bin_add q0 qi) <| od [500] 6 (op_move q0) .nil) fun _ a w h => ?_
              obtain rfl := Option.some.inj hF
              exact ⟨rfl, h.sub [0, 1, 2, 3, 4, 5, 6, 7, 8] (by rfl)⟩
            · refine wp_exit ?_
              obtain rfl := Option.some.inj hF
              exact ⟨exit_ne _, rfl, h.sub [0, 1, 4, 5, 7, 8] (by rfl)⟩
          · clear hl70
            intro e a w hq
            cases cr69 with
            | ret r71 =>
              obtain ⟨rfl, hq⟩ := hq
              obtain rfl := Option.some.inj hF
              exact ⟨ret_ne, rfl, hq⟩
            | next s72 =>
              obtain ⟨y73, y74⟩ := s72
              obtain ⟨rfl, h⟩ := hq
              change SatL c [.slot 2 (lpVP (b1 1) 0), .slot 7 (lpVP (b26 0) 0), .slot 41 (aggVP [intsCk .u32 8 r25.f_Words]), .slot 42 (intVP .i64 x38), .res (lb (b1 1) 23 [bytesCk 32 (List.replicate 32 0)]), .res (lb (b26 0) 23 [bytesCk 32 y74])] a w at h
              refine inBlock_at ?_
              show Code.wp Tryz.prog _ _ a w
              refine reg mixed hn hG h [0, 1, 2, 500, 4, 5] (ov [3] (op_bin bin_add q0 qi) <| od [500] 3 (op_move q0) .nil) fun _ a w h => ?_
              obtain rfl := Option.some.inj hF
              exact ⟨rfl, h.sub [0, 1, 2, 3, 4, 5] (by rfl)⟩
        · refine wp_exit ?_
          obtain rfl := Option.some.inj hF
          exact ⟨exit_ne _, rfl, h.sub [0, 1, 4, 5] (by rfl)⟩
      · clear hl76
        intro e a w hq
        cases cr75 with
        | ret r77 =>
          obtain ⟨rfl, hq⟩ := hq
          obtain rfl := Option.some.inj hF
          exact ⟨.inl rfl, hq⟩
        | next s78 =>
          obtain ⟨y79, y80⟩ := s78
          obtain ⟨rfl, h⟩ := hq
          change SatL c [.slot 2 (lpVP (b1 1) 0), .slot 7 (lpVP (b26 0) 0), .res (lb (b1 1) 23 [bytesCk 32 (List.replicate 32 0)]), .res (lb (b26 0) 23 [bytesCk 32 y80])] a w at h
          refine inBlock_at ?_
          show Code.wp Tryz.prog _ _ a w
          refine regS mixed hn hG h [0, 500] (ov [1, 3] (op_load_w 1 Tryz.isAgg23 Tryz.sizeOf23 q0) <| ou [0, 500] 2 (op_store_w Tryz.sizeOf23 q0 q1 (cells_agg _)) .nil) fun _ a w h => ?_
          refine wp_ret ?_
          obtain rfl := Option.some.inj hF
          exact ⟨.inl rfl, ret1 h Tryz.results86 (r_cell 0 1 rfl rfl Tryz.isAgg23 Tryz.sizeOf23 rfl) [] [] rfl rfl rfl⟩

def sha_Sum.b1 (a_0 : List (List UInt8)) (x7 : Int) (x8 : S_sha_State) : Option (Flow (List UInt8) (Int × S_sha_State)) := (if (decide (x7 < (a_0.length : Int))) = true then (if (0 : Int) ≤ x7 ∧ x7 < a_0.length then ((sha_State_Add x8 (a_0.getD x7.toNat default)).bind fun r16 => some (.cont (IntKind.wrap .i64 (x7 + 1), r16))) else none) else some (.brk (x7, x8)))
def sha_Sum (a_0 : List (List UInt8)) : Option (List UInt8) := ((sha_Begin).bind fun r2 => ((loopN (fun s : Int × S_sha_State => sha_Sum.b1 a_0 s.1 s.2) (((a_0.length : Int) - 0 : Int).toNat + 2) (0, r2)).bind fun cr => match cr with | .ret r => some r | .next (y21, y22) => ((sha_State_End y22).bind fun r23 => some r23)))
theorem sha_Sum_ok {a_0 : List (List UInt8)} {r : (List UInt8)} (hF : sha_Sum a_0 = some r) : CallOk Tryz.prog KG 67 [(slVP strC a_0)] [] (fun _ => []) (aggVP [bytesCk 32 r]) := by
  refine CallOk.intro 19 Tryz.func67 rfl Tryz.ntmps67 (Nat.le_of_ble_eq_true rfl) ?_
  intro c a w hG hn h
  unfold sha_Sum at hF
  change SatL c [.slot 0 (slVP strC a_0)] a w at h
  refine regS mixed hn hG h [0, 501, 500] (ob [] (op_alloc Tryz.zeroValue23 z23) .nil) fun b1 a w h => ?_
  obtain ⟨r2, hr2, hF⟩ := bind_some hF
  refine regS mixed hn hG h [0, 1, 502, 2, 500] (oc [] [] Tryz.call84 (sha_Begin_ok hr2) trivial <| ob [] (op_alloc Tryz.zeroValue156 z156) <| og [501, 502] [500] [.res 1 100000 (fun v1_ _ => (lb (v1_) 156 [intsCk .u32 8 r2.f_Words, one (strVP r2.f_Rest), one (intVP .u64 r2.f_Count)]))] (GOk.plain (op_store_w Tryz.sizeOf156 q0 q1 (cells_agg _)) rfl) .nil) fun b3 a w h => ?_
  refine wp_seq ?_
  refine regS mixed hn hG h [1, 2, 502, 501, 500, 3, 4] (ov [0] (op_move q0) <| ov [500] (op_len_sl Tryz.underlying75 q0) <| ov [] (op_move qi) .nil) fun _ a w h => ?_
  refine wp_block ?_
  obtain ⟨cr17, hl18, hF⟩ := bind_some hF
  refine wp_mono (wp_loopN (R := (List UInt8)) (S := Int × S_sha_State) (fun s a w => SatL c [.slot 2 (lpVP (b1 0) 0), .slot 3 (lpVP (b3 1) 0), .slot 7 (slVP strC a_0), .slot 8 (intVP .i64 (a_0.length : Int)), .slot 9 (intVP .i64 s.1), .res (lb (b1 0) 23 [bytesCk 32 (List.replicate 32 0)]), .res (lb (b3 1) 156 [intsCk .u32 8 s.2.f_Words, one (strVP s.2.f_Rest), one (intVP .u64 s.2.f_Count)])] a w) (fun res e a w => match res with | .next s => e = .exit 0 ∧ SatL c [.slot 2 (lpVP (b1 0) 0), .slot 3 (lpVP (b3 1) 0), .res (lb (b1 0) 23 [bytesCk 32 (List.replicate 32 0)]), .res (lb (b3 1) 156 [intsCk .u32 8 s.2.f_Words, one (strVP s.2.f_Rest), one (intVP .u64 s.2.f_Count)])] a w | .ret r => e = .ret ∧ RetOk Tryz.prog Tryz.f67 c (aggVP [bytesCk 32 r]) (fun _ => []) a w) ?_ _ (0, r2) _ _ _ (h.sub [0, 1, 2, 3, 4, 5, 6] (by rfl)) hl18) ?_
  · clear hl18 hF h
    intro s a w o h hF
    obtain ⟨x7, x8⟩ := s
    change sha_Sum.b1 a_0 x7 x8 = some o at hF
    unfold sha_Sum.b1 at hF
    change SatL c [.slot 2 (lpVP (b1 0) 0), .slot 3 (lpVP (b3 1) 0), .slot 7 (slVP strC a_0), .slot 8 (intVP .i64 (a_0.length : Int)), .slot 9 (intVP .i64 x7), .res (lb (b1 0) 23 [bytesCk 32 (List.replicate 32 0)]), .res (lb (b3 1) 156 [intsCk .u32 8 x8.f_Words, one (strVP x8.f_Rest), one (intVP .u64 x8.f_Count)])] a w at h
    refine regS mixed hn hG h [0, 1, 2, 3, 4, 500, 5, 6] (ov [4, 3] (op_bin bin_lss q0 q1) .nil) fun _ a w h => ?_
    refine wp_seq ?_
    refine cnd h hF 5 [0, 1, 2, 3, 4, 6, 7] [0, 1, 2, 3, 4, 6, 7] (fun hb14 hF h => ?_) (fun hb14 hF h => ?_)
    · refine wp_skip ?_
      show Code.wp Tryz.prog _ _ a w
      refine wp_seq ?_
      refine wp_block ?_
      obtain ⟨hv15, hF⟩ := ite_some hF
      refine regS mixed hn hG h [0, 1, 500, 2, 3, 4, 5, 6] (ov [2, 4] (op_indexAddr_sl Tryz.underlying75 Tryz.sizeOf9 lens_strC q0 q1 hv15) <| ov [500] (op_load_pp1 [] Tryz.isAgg9 q0) <| ov [500] (op_assign q0) .nil) fun _ a w h => ?_
      obtain ⟨r16, hr16, hF⟩ := bind_some hF
      refine reg mixed hn hG h [0, 1, 3, 4, 5, 6, 500] (ov [1, 7] (op_load_w 1 Tryz.isAgg156 Tryz.sizeOf156 q0) <| ov [2] (op_move q0) <| oc [501, 500] [] Tryz.call85 (sha_State_Add_ok hr16) ⟨q0, q1, trivial⟩ <| ou [1, 500] 7 (op_store_w Tryz.sizeOf156 q0 q1 (cells_agg _)) .nil) fun _ a w h => ?_
      show Code.wp Tryz.prog _ _ a w
      refine reg mixed hn hG h [0, 1, 2, 3, 500, 5, 6] (ov [4] (op_bin bin_add q0 qi) <| od [500] 4 (op_move q0) .nil) fun _ a w h => ?_
      obtain rfl := Option.some.inj hF
      exact ⟨rfl, h.sub [0, 1, 2, 3, 4, 5, 6] (by rfl)⟩
    · refine wp_exit ?_
      obtain rfl := Option.some.inj hF
      exact ⟨exit_ne _, rfl, h.sub [0, 1, 5, 6] (by rfl)⟩
  · clear hl18
    intro e a w hq
    cases cr17 with
    | ret r19 =>
      obtain ⟨rfl, hq⟩ := hq
      obtain rfl := Option.some.inj hF
      exact ⟨.inl rfl, hq⟩
    | next s20 =>
      obtain ⟨y21, y22⟩ := s20
      obtain ⟨rfl, h⟩ := hq
      change SatL c [.slot 2 (lpVP (b1 0) 0), .slot 3 (lpVP (b3 1) 0), .res (lb (b1 0) 23 [bytesCk 32 (List.replicate 32 0)]), .res (lb (b3 1) 156 [intsCk .u32 8 y22.f_Words, one (strVP y22.f_Rest), one (intVP .u64 y22.f_Count)])] a w at h
      refine inBlock_at ?_
      show Code.wp Tryz.prog _ _ a w
      obtain ⟨r23, hr23, hF⟩ := bind_some hF
      refine regS mixed hn hG h [0, 500] (ov [1, 3] (op_load_w 1 Tryz.isAgg156 Tryz.sizeOf156 q0) <| oc [500] [] Tryz.call86 (sha_State_End_ok hr23) ⟨q0, trivial⟩ <| ou [0, 500] 2 (op_store_w Tryz.sizeOf23 q0 q1 (cells_agg _)) .nil) fun _ a w h => ?_
      refine wp_ret ?_
      obtain rfl := Option.some.inj hF
      exact ⟨.inl rfl, ret1 h Tryz.results67 (r_cell 0 1 rfl rfl Tryz.isAgg23 Tryz.sizeOf23 rfl) [] [] rfl rfl rfl⟩

def digest_Log_note.n (a_1 : List UInt8) (a_2 : List UInt8) : Option (Option O_Log) := some none
def digest_Log_note.j2 (x6 : List ((List UInt8) × (List UInt8))) (x7 : List ((List UInt8) × Bool)) : Option (Option O_Log) := some (some ⟨x6, x7⟩)
def digest_Log_note.j1 (s_0 : O_Log) (a_1 : List UInt8) (a_2 : List UInt8) (x5 : Bool) : Option (Option O_Log) := (if x5 = true then digest_Log_note.j2 s_0.f_inputs (upd a_2 true s_0.f_others) else digest_Log_note.j2 (upd a_1 a_2 s_0.f_inputs) s_0.f_others)
def digest_Log_note.s (s_0 : O_Log) (a_1 : List UInt8) (a_2 : List UInt8) : Option (Option O_Log) := (if ((lkp a_1 s_0.f_inputs).isSome) = true then digest_Log_note.j1 s_0 a_1 a_2 (!decide (((lkp a_1 s_0.f_inputs).getD []) = a_2)) else digest_Log_note.j1 s_0 a_1 a_2 false)
def digest_Log_note (L_0 : Option O_Log) (a_1 : List UInt8) (a_2 : List UInt8) : Option (Option O_Log) := match L_0 with | none => digest_Log_note.n a_1 a_2 | some s_0 => digest_Log_note.s s_0 a_1 a_2
theorem digest_Log_note_ok {p_0 : Value} {L_0 : Option O_Log} {a_1 : List UInt8} {a_2 : List UInt8} {r : (Option O_Log)} (hF : digest_Log_note L_0 a_1 a_2 = some r) : CallOk Tryz.prog KG 68 [(eqVP p_0), (aggVP [bytesCk 32 a_1]), (strVP a_2)] [(Log_e p_0 L_0)] (fun _ => [Log_e p_0 r]) (tupVP []) := by
  refine CallOk.intro 36 Tryz.func68 rfl Tryz.ntmps68 (Nat.le_of_ble_eq_true rfl) ?_
  intro c a w hG hn h
  unfold digest_Log_note at hF
  change SatL c [.slot 0 (eqVP p_0), .slot 1 (aggVP [bytesCk 32 a_1]), .slot 2 (strVP a_2), .res (Log_e p_0 L_0)] a w at h
  obtain ⟨h_0_0, h⟩ := h.ex 3 rfl
  obtain ⟨h_0_1, h⟩ := h.ex 3 rfl
  change SatL c [.slot 0 (eqVP p_0), .slot 1 (aggVP [bytesCk 32 a_1]), .slot 2 (strVP a_2), .res (Log_o p_0 h_0_0 h_0_1 L_0)] a w at h
  cases L_0 with
  | none =>
    change digest_Log_note.n a_1 a_2 = some r at hF
    unfold digest_Log_note.n at hF
    obtain rfl := h.isp 3 rfl (fun _ _ _ q => q.2)
    replace h := h.slotc 0 rfl (V' := ptrVP (.pointer none) false) (fun _ _ h => ⟨h, rfl⟩)
    change SatL c [.slot 0 (ptrVP (.pointer none) false), .slot 1 (aggVP [bytesCk 32 a_1]), .slot 2 (strVP a_2), .res (Log_o (.pointer none) h_0_0 h_0_1 none)] a w at h
    refine regS mixed hn hG h [0, 2, 501, 3, 500] (ob [1] (op_box q0 (cells_agg _)) .nil) fun b1 a w h => ?_
    refine wp_seq ?_
    refine regS mixed hn hG h [0, 1, 2, 500, 3, 4] (ov [0] (op_move q0) <| ov [500] (op_bin (bin_pnil Tryz.underlying65) q0 (opc (ec _))) .nil) fun _ a w h => ?_
    refine cond_L h 3 rfl (fun hb2 => ?_) (fun hb2 => ?_)
    · skip
      replace h := h.sel [4]
      refine wp_ret ?_
      replace h := h.conv 0 rfl Log_packo
      change SatL c [.res (Log_e (.pointer none) none)] a w at h
      obtain rfl := Option.some.inj hF
      exact ⟨.inl rfl, retn h (rs := []) (Vs := []) Tryz.results68 (by decide) trivial [0] [(Log_e (.pointer none) none)] rfl rfl rfl⟩
    · cases hb2
  | some s_0 =>
    change digest_Log_note.s s_0 a_1 a_2 = some r at hF
    unfold digest_Log_note.s at hF
    have hp := h.isp 3 rfl (fun Φ f w q => Log_lp Φ f w q)
    replace h := h.slotc 0 rfl (V' := lpVP p_0 0) (fun _ _ h => eq_lp h hp)
    replace h := h.sep (R := lb p_0 163 [one (eqVP h_0_0), one (eqVP h_0_1)]) (S := (RP.sep (mapR h_0_0 arrK (fun l => l.length = 32) (fun u y => RP.val (strVP y) u) s_0.f_inputs) (mapR h_0_1 strK (fun _ => True) (fun u y => RP.val (boolVP y) u) s_0.f_others))) 3 rfl
    replace h := h.sep (R := mapR h_0_0 arrK (fun l => l.length = 32) (fun u y => RP.val (strVP y) u) s_0.f_inputs) (S := (mapR h_0_1 strK (fun _ => True) (fun u y => RP.val (boolVP y) u) s_0.f_others)) 4 rfl
    replace h := h.sub [0, 1, 2, 3, 4, 5] (by rfl)
    change SatL c [.slot 0 (lpVP p_0 0), .slot 1 (aggVP [bytesCk 32 a_1]), .slot 2 (strVP a_2), .res (lb p_0 163 [one (eqVP h_0_0), one (eqVP h_0_1)]), .res (mapR h_0_0 arrK (fun l => l.length = 32) (fun u y => RP.val (strVP y) u) s_0.f_inputs), .res (mapR h_0_1 strK (fun _ => True) (fun u y => RP.val (boolVP y) u) s_0.f_others)] a w at h
    refine regS mixed hn hG h [0, 2, 501, 3, 4, 5, 500] (ob [1] (op_box q0 (cells_agg _)) .nil) fun b3 a w h => ?_
    refine wp_seq ?_
    refine regS mixed hn hG h [0, 1, 2, 500, 3, 4, 5, 6] (ov [0] (op_move q0) <| ov [500] (op_bin (bin_pnil Tryz.underlying65) (lp_ptr q0) (opc (ec _))) .nil) fun _ a w h => ?_
    refine cond_L h 3 rfl (fun hb4 => ?_) (fun hb4 => ?_)
    · cases hb4
    · skip
      replace h := h.sel [0, 1, 2, 4, 5, 6, 7]
      refine wp_skip ?_
      show Code.wp Tryz.prog _ _ a w
      refine regS mixed hn hG h [0, 1, 2, 501, 500, 3, 4, 5, 6] (ov [0] (op_move q0) <| ov [500] (op_nilCheck q0 (ptr_lp _ _)) <| ov [500] (op_fieldAddr_lbm (p := p_0) (n := 1) 0 0 Tryz.underlying163 rfl Tryz.sizeOf160 (by decide) q0 rfl) <| ov [500, 3] (op_load_lb1 [] [one (eqVP h_0_1)] 1 Tryz.isAgg160 q0 rfl rfl) <| ov [2, 6] (op_load_w 1 Tryz.isAgg23 Tryz.sizeOf23 q0) <| ov [501, 500, 4] (op_lookup strVP [] 2 Tryz.underlying160 (keyArr Tryz.underlying23 Tryz.underlying5 Tryz.type5 Tryz.sizeOf5 Tryz.isAgg5) Tryz.zeroValue9 q0 q1 hk_arr rfl res_id (fun _ _ _ _ _ h => h.2) (fun _ => ⟨rfl, by decide⟩)) <| ov [500] (op_move q0) <| ov [500] (op_extract q0 rfl) <| ov [501] (op_extract q0 rfl) <| ov [501] (op_assign q0) <| ov [501] (op_assign q0) .nil) fun _ a w h => ?_
      refine wp_seq ?_
      refine wp_cut (fun a w => ∃ (x5 : Bool), digest_Log_note.j1 s_0 a_1 a_2 x5 = some r ∧ SatL c [.slot 0 (lpVP p_0 0), .slot 2 (strVP a_2), .slot 4 (lpVP (b3 0) 0), .slot 24 (boolVP x5), .res (lb p_0 163 [one (eqVP h_0_0), one (eqVP h_0_1)]), .res (mapR h_0_0 arrK (fun l => l.length = 32) (fun u y => RP.val (strVP y) u) s_0.f_inputs), .res (mapR h_0_1 strK (fun _ => True) (fun u y => RP.val (boolVP y) u) s_0.f_others), .res (lb (b3 0) 23 [bytesCk 32 a_1])] a w) ?_ ?_
      · rcases Bool.eq_false_or_eq_true ((lkp a_1 s_0.f_inputs).isSome) with hb9 | hb9
        · replace hF := tt_of hb9 hF
          refine reg mixed hn hG h [0, 1, 2, 500, 5, 6, 7, 8] (ov [4] (op_move q0) <| ov [500] (op_move q0) <| oe [500, 3] [] (GOk.on_eq hb9 rfl rfl rfl (op_move q0)) <| oe [501, 1] [] (GOk.on_eq hb9 rfl rfl rfl (op_move q0)) <| oe [502, 501, 500] [] (GOk.on_eq hb9 rfl rfl rfl (op_bin bin_sneq q0 q1)) <| ov [503, 500] (op_pick_t hb9 q0 q1) .nil) fun _ a w h => ?_
          exact ⟨!decide (((lkp a_1 s_0.f_inputs).getD []) = a_2), hF, h.sub [0, 1, 2, 3, 4, 5, 6, 7] (by rfl)⟩
        · replace hF := ff_of hb9 hF
          refine reg mixed hn hG h [0, 1, 2, 500, 5, 6, 7, 8] (ov [4] (op_move q0) <| ov [500] (op_move q0) <| oe [500] [] (GOk.off_v (want := true) hb9 rfl rfl rfl rfl) <| oe [501] [] (GOk.off_v (want := true) hb9 rfl rfl rfl rfl) <| oe [502] [] (GOk.off_v (want := true) hb9 rfl rfl rfl rfl) <| ov [503] (op_pick_f hb9 q0 qb) .nil) fun _ a w h => ?_
          exact ⟨false, hF, h.sub [0, 1, 2, 3, 4, 5, 6, 7] (by rfl)⟩
      · clear h hF
        rintro a w ⟨x5, hF, h⟩
        unfold digest_Log_note.j1 at hF
        show Code.wp Tryz.prog _ _ a w
        refine wp_cut (fun a w => ∃ (x6 : List ((List UInt8) × (List UInt8))), ∃ (x7 : List ((List UInt8) × Bool)), digest_Log_note.j2 x6 x7 = some r ∧ SatL c [.res (lb p_0 163 [one (eqVP h_0_0), one (eqVP h_0_1)]), .res (mapR h_0_0 arrK (fun l => l.length = 32) (fun u y => RP.val (strVP y) u) x6), .res (mapR h_0_1 strK (fun _ => True) (fun u y => RP.val (boolVP y) u) x7)] a w) ?_ ?_
        · refine cnd h hF 3 [0, 1, 4, 5, 6] [0, 1, 2, 4, 5, 6, 7] (fun hb8 hF h => ?_) (fun hb8 hF h => ?_)
          · refine reg mixed hn hG h [2, 3, 500] (ov [0] (op_move q0) <| ov [500] (op_nilCheck q0 (ptr_lp _ _)) <| ov [500] (op_fieldAddr_lbm (p := p_0) (n := 1) 0 1 Tryz.underlying163 rfl Tryz.sizeOf161 (by decide) q0 rfl) <| ov [500, 2] (op_load_lb1 [one (eqVP h_0_0)] [] 1 Tryz.isAgg161 q0 rfl rfl) <| ov [1] (op_move q0) <| ou [501, 500] 4 (op_mapUpdate Tryz.underlying161 (keyStr Tryz.underlying9) q0 q1 hk_str qb) .nil) fun _ a w h => ?_
            exact ⟨s_0.f_inputs, upd a_2 true s_0.f_others, hF, h.sub [0, 1, 2] (by rfl)⟩
          · refine reg mixed hn hG h [3, 500, 5] (ov [0] (op_move q0) <| ov [500] (op_nilCheck q0 (ptr_lp _ _)) <| ov [500] (op_fieldAddr_lbm (p := p_0) (n := 1) 0 0 Tryz.underlying163 rfl Tryz.sizeOf160 (by decide) q0 rfl) <| ov [500, 3] (op_load_lb1 [] [one (eqVP h_0_1)] 1 Tryz.isAgg160 q0 rfl rfl) <| ov [2, 6] (op_load_w 1 Tryz.isAgg23 Tryz.sizeOf23 q0) <| ov [1] (op_move q0) <| ou [502, 501, 500] 4 (op_mapUpdate Tryz.underlying160 (keyArr Tryz.underlying23 Tryz.underlying5 Tryz.type5 Tryz.sizeOf5 Tryz.isAgg5) q0 q1 hk_arr q2) .nil) fun _ a w h => ?_
            exact ⟨upd a_1 a_2 s_0.f_inputs, s_0.f_others, hF, h.sub [0, 1, 2] (by rfl)⟩
        · clear h hF
          rintro a w ⟨x6, x7, hF, h⟩
          unfold digest_Log_note.j2 at hF
          replace h := h.unsep 1 2 rfl rfl (by decide)
          replace h := h.unsep 0 1 rfl rfl (by decide)
          replace h := h.conv 0 rfl (R' := Log_e p_0 (some ⟨x6, x7⟩)) (Log_packo (v0 := h_0_0) (v1 := h_0_1) (o := (some ⟨x6, x7⟩)))
          replace h := h.sub [0] (by rfl)
          change SatL c [.res (Log_e p_0 (some ⟨x6, x7⟩))] a w at h
          obtain rfl := Option.some.inj hF
          exact ⟨.inr rfl, retn h (rs := []) (Vs := []) Tryz.results68 (by decide) trivial [0] [(Log_e p_0 (some ⟨x6, x7⟩))] rfl rfl rfl⟩

def digest_Log_Of (L_0 : Option O_Log) (a_1 : Int) (a_2 : List (List UInt8)) : Option ((List UInt8) × (Option O_Log)) := ((digest_input a_1 a_2).bind fun r2 => ((sha_Sum [r2]).bind fun r3 => ((digest_Log_note L_0 r3 r2).bind fun r5 => some (r3, r5))))
theorem digest_Log_Of_ok {p_0 : Value} {L_0 : Option O_Log} {a_1 : Int} {a_2 : List (List UInt8)} {r : (List UInt8) × (Option O_Log)} (hF : digest_Log_Of L_0 a_1 a_2 = some r) : CallOk Tryz.prog KG 45 [(eqVP p_0), (intVP .u8 a_1), (slVP strC a_2)] [(Log_e p_0 L_0)] (fun _ => [Log_e p_0 r.2]) (aggVP [bytesCk 32 r.1]) := by
  refine CallOk.intro 20 Tryz.func45 rfl Tryz.ntmps45 (Nat.le_of_ble_eq_true rfl) ?_
  intro c a w hG hn h
  unfold digest_Log_Of at hF
  change SatL c [.slot 0 (eqVP p_0), .slot 1 (intVP .u8 a_1), .slot 2 (slVP strC a_2), .res (Log_e p_0 L_0)] a w at h
  refine regS mixed hn hG h [0, 1, 2, 501, 3, 500] (ob [] (op_alloc Tryz.zeroValue23 z23) .nil) fun b1 a w h => ?_
  obtain ⟨r2, hr2, hF⟩ := bind_some hF
  refine regS mixed hn hG h [0, 3, 500, 4, 5] (ov [1] (op_move q0) <| ov [2] (op_move q0) <| oc [501, 500] [] Tryz.call66 (digest_input_ok hr2) ⟨q0, q1, trivial⟩ <| ov [500] (op_assign q0) .nil) fun _ a w h => ?_
  obtain ⟨r3, hr3, hF⟩ := bind_some hF
  refine regS mixed hn hG h [0, 1, 2, 502, 3, 4, 500] (ov [2] (op_move q0) <| ov [500] (op_lit (xs := [.tmp 12]) (ys := [r2]) _ rfl Tryz.underlying75 Tryz.sizeOf9 Tryz.zeroValue9 rfl rfl (by decide) (by decide) ⟨⟨_, q0, (cells_one (one_str _))⟩, trivial⟩ lens_strC) <| oc [500] [] Tryz.call67 (sha_Sum_ok hr3) ⟨q0, trivial⟩ <| ob [] (op_alloc Tryz.zeroValue23 z23) <| og [501, 502] [500] [.res 3 100000 (fun v1_ _ => (lb (v1_) 23 [bytesCk 32 r3]))] (GOk.plain (op_store_w Tryz.sizeOf23 q0 q1 (cells_agg _)) rfl) .nil) fun b4 a w h => ?_
  obtain ⟨r5, hr5, hF⟩ := bind_some hF
  refine regS mixed hn hG h [1, 3, 5, 6, 500] (ov [0] (op_move q0) <| ov [3, 6] (op_load_w 1 Tryz.isAgg23 Tryz.sizeOf23 q0) <| ov [2] (op_move q0) <| oc [502, 501, 500] [4] Tryz.call68 (digest_Log_note_ok hr5) ⟨q0, q1, q2, trivial⟩ .nil) fun _ a w h => ?_
  refine regS mixed hn hG h [0, 500, 4] (ov [1, 3] (op_load_w 1 Tryz.isAgg23 Tryz.sizeOf23 q0) <| ou [0, 500] 2 (op_store_w Tryz.sizeOf23 q0 q1 (cells_agg _)) .nil) fun _ a w h => ?_
  refine wp_ret ?_
  obtain rfl := Option.some.inj hF
  exact ⟨.inl rfl, ret1 h Tryz.results45 (r_cell 0 1 rfl rfl Tryz.isAgg23 Tryz.sizeOf23 rfl) [2] [(Log_e p_0 r5)] rfl rfl rfl⟩

def wire_Digest (a_0 : List UInt8) : Option (List UInt8) := some (a_0.take ((32 : Int).toNat - (0 : Int).toNat))
theorem wire_Digest_ok {a_0 : List UInt8} {r : (List UInt8)} (hF : wire_Digest a_0 = some r) : CallOk Tryz.prog KG 47 [(aggVP [bytesCk 32 a_0])] [] (fun _ => []) (strVP r) := by
  refine CallOk.intro 5 Tryz.func47 rfl Tryz.ntmps47 (Nat.le_of_ble_eq_true rfl) ?_
  intro c a w hG hn h
  unfold wire_Digest at hF
  change SatL c [.slot 0 (aggVP [bytesCk 32 a_0])] a w at h
  refine regS mixed hn hG h [502, 501] (ob [0] (op_box q0 (cells_agg _)) <| ov [] (op_assign (opc (sc _ (by decide)))) .nil) fun b1 a w h => ?_
  refine regS mixed hn hG h [500] (ov [0] (op_slice_lb (a := 0) (b := 32) Tryz.underlying23 Tryz.sizeOf5 q0 rfl rfl (by decide)) <| ov [500, 1] (op_str_lsl [] [] 1 Tryz.underlying119 Tryz.underlying5 Tryz.underlying9 q0 rfl rfl (by decide) (by decide)) <| ov [500] (op_assign q0) .nil) fun _ a w h => ?_
  refine wp_ret ?_
  obtain rfl := Option.some.inj hF
  exact ⟨.inl rfl, ret1 h Tryz.results47 (r_tmp 0 rfl) [] [] rfl rfl rfl⟩

def wire_Byte (a_0 : Int) : Option (List UInt8) := ((wire_big (IntKind.wrap .u64 a_0) 1).bind fun r1 => some r1)
theorem wire_Byte_ok {a_0 : Int} {r : (List UInt8)} (hF : wire_Byte a_0 = some r) : CallOk Tryz.prog KG 58 [(intVP .u8 a_0)] [] (fun _ => []) (strVP r) := by
  refine CallOk.intro 6 Tryz.func58 rfl Tryz.ntmps58 (Nat.le_of_ble_eq_true rfl) ?_
  intro c a w hG hn h
  unfold wire_Byte at hF
  change SatL c [.slot 0 (intVP .u8 a_0)] a w at h
  refine regS mixed hn hG h [0] (ov [] (op_assign (opc (sc _ (by decide)))) .nil) fun _ a w h => ?_
  obtain ⟨r1, hr1, hF⟩ := bind_some hF
  refine regS mixed hn hG h [500] (ov [0] (op_move q0) <| ov [500] (op_convert_int Tryz.underlying5 Tryz.underlying32 q0) <| oc [500] [] Tryz.call69 (wire_big_ok hr1) ⟨q0, qi, trivial⟩ <| ov [500] (op_assign q0) .nil) fun _ a w h => ?_
  refine wp_ret ?_
  obtain rfl := Option.some.inj hF
  exact ⟨.inl rfl, ret1 h Tryz.results58 (r_tmp 0 rfl) [] [] rfl rfl rfl⟩

def wire_Long (a_0 : Int) : Option (List UInt8) := ((wire_big a_0 8).bind fun r1 => some r1)
theorem wire_Long_ok {a_0 : Int} {r : (List UInt8)} (hF : wire_Long a_0 = some r) : CallOk Tryz.prog KG 71 [(intVP .u64 a_0)] [] (fun _ => []) (strVP r) := by
  refine CallOk.intro 5 Tryz.func71 rfl Tryz.ntmps71 (Nat.le_of_ble_eq_true rfl) ?_
  intro c a w hG hn h
  unfold wire_Long at hF
  change SatL c [.slot 0 (intVP .u64 a_0)] a w at h
  refine regS mixed hn hG h [0] (ov [] (op_assign (opc (sc _ (by decide)))) .nil) fun _ a w h => ?_
  obtain ⟨r1, hr1, hF⟩ := bind_some hF
  refine regS mixed hn hG h [500] (ov [0] (op_move q0) <| oc [500] [] Tryz.call69 (wire_big_ok hr1) ⟨q0, qi, trivial⟩ <| ov [500] (op_assign q0) .nil) fun _ a w h => ?_
  refine wp_ret ?_
  obtain rfl := Option.some.inj hF
  exact ⟨.inl rfl, ret1 h Tryz.results71 (r_tmp 0 rfl) [] [] rfl rfl rfl⟩

def notes_plain (a_0 : S_notes_Note) : Option (List UInt8) := ((wire_Byte a_0.f_Kind).bind fun r2 => ((wire_Word a_0.f_Home).bind fun r3 => (if r2.length + r3.length ≤ mxl then ((wire_Long a_0.f_Next).bind fun r5 => (if (r2 ++ r3).length + r5.length ≤ mxl then ((wire_Digest a_0.f_Old).bind fun r7 => (if ((r2 ++ r3) ++ r5).length + r7.length ≤ mxl then ((wire_Digest a_0.f_New).bind fun r9 => (if (((r2 ++ r3) ++ r5) ++ r7).length + r9.length ≤ mxl then ((wire_Long a_0.f_Sent).bind fun r11 => (if ((((r2 ++ r3) ++ r5) ++ r7) ++ r9).length + r11.length ≤ mxl then some (((((r2 ++ r3) ++ r5) ++ r7) ++ r9) ++ r11) else none)) else none)) else none)) else none)) else none)))
theorem notes_plain_ok {a_0 : S_notes_Note} {r : (List UInt8)} (hF : notes_plain a_0 = some r) : CallOk Tryz.prog KG 56 [(aggVP [one (intVP .u8 a_0.f_Kind), one (intVP .u32 a_0.f_Home), one (intVP .u64 a_0.f_Next), bytesCk 32 a_0.f_Old, bytesCk 32 a_0.f_New, one (intVP .u64 a_0.f_Sent)])] [] (fun _ => []) (strVP r) := by
  refine CallOk.intro 26 Tryz.func56 rfl Tryz.ntmps56 (Nat.le_of_ble_eq_true rfl) ?_
  intro c a w hG hn h
  unfold notes_plain at hF
  change SatL c [.slot 0 (aggVP [one (intVP .u8 a_0.f_Kind), one (intVP .u32 a_0.f_Home), one (intVP .u64 a_0.f_Next), bytesCk 32 a_0.f_Old, bytesCk 32 a_0.f_New, one (intVP .u64 a_0.f_Sent)])] a w at h
  refine regS mixed hn hG h [502, 501] (ob [0] (op_box q0 (cells_agg _)) <| ov [] (op_assign (opc (sc _ (by decide)))) .nil) fun b1 a w h => ?_
  obtain ⟨r2, hr2, hF⟩ := bind_some hF
  obtain ⟨r3, hr3, hF⟩ := bind_some hF
  obtain ⟨hv4, hF⟩ := ite_some hF
  obtain ⟨r5, hr5, hF⟩ := bind_some hF
  obtain ⟨hv6, hF⟩ := ite_some hF
  obtain ⟨r7, hr7, hF⟩ := bind_some hF
  obtain ⟨hv8, hF⟩ := ite_some hF
  obtain ⟨r9, hr9, hF⟩ := bind_some hF
  obtain ⟨hv10, hF⟩ := ite_some hF
  obtain ⟨r11, hr11, hF⟩ := bind_some hF
  obtain ⟨hv12, hF⟩ := ite_some hF
  refine regS mixed hn hG h [500] (ov [0] (op_fieldAddr_lbm (p := (b1 0)) (n := 1) 0 0 Tryz.underlying63 rfl Tryz.sizeOf5 (by decide) q0 rfl) <| ov [500, 1] (op_load_lb1 [] [one (intVP .u32 a_0.f_Home), one (intVP .u64 a_0.f_Next), bytesCk 32 a_0.f_Old, bytesCk 32 a_0.f_New, one (intVP .u64 a_0.f_Sent)] 1 Tryz.isAgg5 q0 rfl rfl) <| oc [500] [] Tryz.call58 (wire_Byte_ok hr2) ⟨q0, trivial⟩ <| ov [0] (op_fieldAddr_lbm (p := (b1 0)) (n := 1) 0 1 Tryz.underlying63 rfl Tryz.sizeOf31 (by decide) q0 rfl) <| ov [500, 1] (op_load_lb1 [one (intVP .u8 a_0.f_Kind)] [one (intVP .u64 a_0.f_Next), bytesCk 32 a_0.f_Old, bytesCk 32 a_0.f_New, one (intVP .u64 a_0.f_Sent)] 1 Tryz.isAgg31 q0 rfl rfl) <| oc [500] [] Tryz.call46 (wire_Word_ok hr3) ⟨q0, trivial⟩ <| ov [503, 500] (op_bin (bin_sadd hv4) q0 q1) <| ov [0] (op_fieldAddr_lbm (p := (b1 0)) (n := 1) 0 2 Tryz.underlying63 rfl Tryz.sizeOf32 (by decide) q0 rfl) <| ov [500, 1] (op_load_lb1 [one (intVP .u8 a_0.f_Kind), one (intVP .u32 a_0.f_Home)] [bytesCk 32 a_0.f_Old, bytesCk 32 a_0.f_New, one (intVP .u64 a_0.f_Sent)] 1 Tryz.isAgg32 q0 rfl rfl) <| oc [500] [] Tryz.call71 (wire_Long_ok hr5) ⟨q0, trivial⟩ <| ov [503, 500] (op_bin (bin_sadd hv6) q0 q1) <| ov [0] (op_fieldAddr_lbm (p := (b1 0)) (n := 32) 0 3 Tryz.underlying63 rfl Tryz.sizeOf23 (by decide) q0 rfl) <| ov [500, 1] (op_load_lb [one (intVP .u8 a_0.f_Kind), one (intVP .u32 a_0.f_Home), one (intVP .u64 a_0.f_Next)] [bytesCk 32 a_0.f_Old] [bytesCk 32 a_0.f_New, one (intVP .u64 a_0.f_Sent)] 1 Tryz.isAgg23 Tryz.sizeOf23 q0 rfl rfl rfl) <| oc [500] [] Tryz.call47 (wire_Digest_ok hr7) ⟨q0, trivial⟩ <| ov [503, 500] (op_bin (bin_sadd hv8) q0 q1) <| ov [0] (op_fieldAddr_lbm (p := (b1 0)) (n := 32) 0 35 Tryz.underlying63 rfl Tryz.sizeOf23 (by decide) q0 rfl) <| ov [500, 1] (op_load_lb [one (intVP .u8 a_0.f_Kind), one (intVP .u32 a_0.f_Home), one (intVP .u64 a_0.f_Next), bytesCk 32 a_0.f_Old] [bytesCk 32 a_0.f_New] [one (intVP .u64 a_0.f_Sent)] 1 Tryz.isAgg23 Tryz.sizeOf23 q0 rfl rfl rfl) <| oc [500] [] Tryz.call47 (wire_Digest_ok hr9) ⟨q0, trivial⟩ <| ov [503, 500] (op_bin (bin_sadd hv10) q0 q1) <| ov [0] (op_fieldAddr_lbm (p := (b1 0)) (n := 1) 0 67 Tryz.underlying63 rfl Tryz.sizeOf32 (by decide) q0 rfl) <| ov [500, 1] (op_load_lb1 [one (intVP .u8 a_0.f_Kind), one (intVP .u32 a_0.f_Home), one (intVP .u64 a_0.f_Next), bytesCk 32 a_0.f_Old, bytesCk 32 a_0.f_New] [] 1 Tryz.isAgg32 q0 rfl rfl) <| oc [500] [] Tryz.call71 (wire_Long_ok hr11) ⟨q0, trivial⟩ <| ov [503, 500] (op_bin (bin_sadd hv12) q0 q1) <| ov [500] (op_assign q0) .nil) fun _ a w h => ?_
  refine wp_ret ?_
  obtain rfl := Option.some.inj hF
  exact ⟨.inl rfl, ret1 h Tryz.results56 (r_tmp 0 rfl) [] [] rfl rfl rfl⟩

def notes_Bytes (a_0 : S_notes_Note) : Option (List UInt8) := ((notes_plain a_0).bind fun r2 => ((digest_Log_Of none 200 [r2]).bind fun r3 => ((wire_Digest r3.1).bind fun r4 => (if r2.length + r4.length ≤ mxl then some (r2 ++ r4) else none))))
theorem notes_Bytes_ok {a_0 : S_notes_Note} {r : (List UInt8)} (hF : notes_Bytes a_0 = some r) : CallOk Tryz.prog KG 32 [(aggVP [one (intVP .u8 a_0.f_Kind), one (intVP .u32 a_0.f_Home), one (intVP .u64 a_0.f_Next), bytesCk 32 a_0.f_Old, bytesCk 32 a_0.f_New, one (intVP .u64 a_0.f_Sent)])] [] (fun _ => []) (strVP r) := by
  refine CallOk.intro 14 Tryz.func32 rfl Tryz.ntmps32 (Nat.le_of_ble_eq_true rfl) ?_
  intro c a w hG hn h
  unfold notes_Bytes at hF
  change SatL c [.slot 0 (aggVP [one (intVP .u8 a_0.f_Kind), one (intVP .u32 a_0.f_Home), one (intVP .u64 a_0.f_Next), bytesCk 32 a_0.f_Old, bytesCk 32 a_0.f_New, one (intVP .u64 a_0.f_Sent)])] a w at h
  refine regS mixed hn hG h [502, 501] (ob [0] (op_box q0 (cells_agg _)) <| ov [] (op_assign (opc (sc _ (by decide)))) .nil) fun b1 a w h => ?_
  obtain ⟨r2, hr2, hF⟩ := bind_some hF
  refine regS mixed hn hG h [500] (ov [0, 1] (op_load_w 1 Tryz.isAgg63 Tryz.sizeOf63 q0) <| oc [500] [] Tryz.call56 (notes_plain_ok hr2) ⟨q0, trivial⟩ <| ov [500] (op_assign q0) .nil) fun _ a w h => ?_
  refine regS mixed hn hG h [0, 500] (ov [] (op_assign (opc (ec _))) .nil) fun _ a w h => ?_
  replace h := h.snoc Log_nil
  replace h := h.sub [0, 1, 2] (by rfl)
  change SatL c [.slot 3 (strVP r2), .slot 4 (eqVP (.pointer none)), .res (Log_e (.pointer none) none)] a w at h
  obtain ⟨r3, hr3, hF⟩ := bind_some hF
  obtain ⟨r4, hr4, hF⟩ := bind_some hF
  obtain ⟨hv5, hF⟩ := ite_some hF
  refine regS mixed hn hG h [500, 503] (ov [0] (op_move q0) <| ov [1] (op_move q0) <| ov [0] (op_move q0) <| ov [500] (op_lit (xs := [.tmp 9]) (ys := [r2]) _ rfl Tryz.underlying75 Tryz.sizeOf9 Tryz.zeroValue9 rfl rfl (by decide) (by decide) ⟨⟨_, q0, (cells_one (one_str _))⟩, trivial⟩ lens_strC) <| oc [502, 500] [2] Tryz.call45 (digest_Log_Of_ok hr3) ⟨q0, qi, q1, trivial⟩ <| oc [501] [] Tryz.call47 (wire_Digest_ok hr4) ⟨q0, trivial⟩ <| ov [506, 500] (op_bin (bin_sadd hv5) q0 q1) <| ov [500] (op_assign q0) .nil) fun _ a w h => ?_
  refine wp_ret ?_
  obtain rfl := Option.some.inj hF
  exact ⟨.inl rfl, ret1 h Tryz.results32 (r_tmp 0 rfl) [] [] rfl rfl rfl⟩

def wire_Over (a_0 : List UInt8) : Option O_Rdr := some ⟨a_0, (0 : Int)⟩
theorem wire_Over_ok {a_0 : List UInt8} {r : O_Rdr} (hF : wire_Over a_0 = some r) : CallOk Tryz.prog KG 72 [(strVP a_0)] [] (fun v => [Rdr_e v (some r)]) anyVP := by
  refine CallOk.intro 6 Tryz.func72 rfl Tryz.ntmps72 (Nat.le_of_ble_eq_true rfl) ?_
  intro c a w hG hn h
  unfold wire_Over at hF
  change SatL c [.slot 0 (strVP a_0)] a w at h
  refine regS mixed hn hG h [0] (ov [] (op_assign (opc (ec _))) .nil) fun _ a w h => ?_
  refine regS mixed hn hG h [500, 501] (ov [0] (op_move q0) <| ov [500] (op_build [(0, .tmp 3)] rfl bu168 zo168 ⟨[], [one (strVP [])], [one (intVP .i64 (0 : Int))], [one (strVP a_0)], _, rfl, rfl, rfl, q0, (cells_one (one_str _)), rfl⟩) <| ob [500] (op_box q0 (cells_agg _)) <| og [501] [] [.slot 2 2 100000 (fun v1_ _ => (lpVP v1_ 0))] (fun {β} => (GOk.plain (op_assign (V := (lpVP (β 2) 0)) q0) rfl)) .nil) fun b1 a w h => ?_
  refine wp_ret ?_
  replace h := h.conv 1 rfl (R' := Rdr_e (b1 2) (some ⟨a_0, (0 : Int)⟩)) (Rdr_packo (o := (some ⟨a_0, (0 : Int)⟩)))
  replace h := h.slotc 0 rfl (fun _ _ h => lp_eqv h)
  replace h := h.sub [0, 1] (by rfl)
  change SatL c [.slot 2 (eqVP (b1 2)), .res (Rdr_e (b1 2) (some ⟨a_0, (0 : Int)⟩))] a w at h
  obtain rfl := Option.some.inj hF
  exact ⟨.inl rfl, ret1v (p := (b1 2)) h Tryz.results72 (r_tmp 0 rfl) [1] _ rfl rfl rfl⟩

def wire_Reader_take (L_0 : O_Rdr) (a_1 : Int) : Option ((List UInt8) × O_Rdr) := (if (!decide (L_0.f_e = (0 : Int))) = true then some ([], L_0) else (if (decide ((L_0.f_s.length : Int) < a_1)) = true then some ([], ⟨L_0.f_s, 3⟩) else (if (0 : Int) ≤ 0 ∧ (0 : Int) ≤ a_1 ∧ a_1 ≤ L_0.f_s.length then (if (0 : Int) ≤ a_1 ∧ a_1 ≤ (L_0.f_s.length : Int) ∧ (L_0.f_s.length : Int) ≤ L_0.f_s.length then some ((L_0.f_s.take a_1.toNat).drop (0 : Int).toNat, ⟨(L_0.f_s.take (L_0.f_s.length : Int).toNat).drop a_1.toNat, L_0.f_e⟩) else none) else none)))
theorem wire_Reader_take_ok {p_0 : Value} {L_0 : O_Rdr} {a_1 : Int} {r : (List UInt8) × O_Rdr} (hF : wire_Reader_take L_0 a_1 = some r) : CallOk Tryz.prog KG 90 [(eqVP p_0), (intVP .i64 a_1)] [(Rdr_e p_0 (some L_0))] (fun _ => [Rdr_e p_0 (some r.2)]) (strVP r.1) := by
  refine CallOk.intro 43 Tryz.func90 rfl Tryz.ntmps90 (Nat.le_of_ble_eq_true rfl) ?_
  intro c a w hG hn h
  unfold wire_Reader_take at hF
  change SatL c [.slot 0 (eqVP p_0), .slot 1 (intVP .i64 a_1), .res (Rdr_e p_0 (some L_0))] a w at h
  refine regS mixed hn hG h [0, 1, 2] (ov [] (op_assign (opc (sc _ (by decide)))) .nil) fun _ a w h => ?_
  refine wp_seq ?_
  refine wp_block ?_
  have hp := h.isp 2 rfl (fun Φ f w q => Rdr_lp Φ f w q)
  replace h := h.slotc 0 rfl (V' := lpVP p_0 0) (fun _ _ h => eq_lp h hp)
  replace h := h.sub [0, 1, 2] (by rfl)
  change SatL c [.slot 0 (lpVP p_0 0), .slot 1 (intVP .i64 a_1), .res (lb p_0 168 [one (strVP L_0.f_s), one (intVP .i64 L_0.f_e)])] a w at h
  refine wp_seq ?_
  refine reg mixed hn hG h [0, 1, 500, 2] (ov [0] (op_move q0) <| ov [500] (op_bin (bin_pnil Tryz.underlying142) (lp_ptr q0) (opc (ec _))) <| ov [500] (op_move q0) <| oe [500, 0] [] (GOk.on_eq rfl rfl rfl rfl (op_move q0)) <| oe [501, 500] [] (GOk.on_eq rfl rfl rfl rfl (op_nilCheck q0 (ptr_lp _ _))) <| oe [502, 500] [] (GOk.on_eq rfl rfl rfl rfl (op_fieldAddr_lbm (p := p_0) (n := 1) 0 1 Tryz.underlying168 rfl Tryz.sizeOf49 (by decide) q0 rfl)) <| oe [503, 500, 2] [] (GOk.on_eq rfl rfl rfl rfl (op_load_lb1 [one (strVP L_0.f_s)] [] 1 Tryz.isAgg49 q0 rfl rfl)) <| oe [504, 500] [] (GOk.on_eq rfl rfl rfl rfl (op_bin bin_neq q0 qi)) <| ov [505, 500] (op_pick_f rfl q0 q1) <| ov [500] (op_assign q0) .nil) fun _ a w h => ?_
  replace h := h.conv 3 rfl (R' := Rdr_e p_0 (some L_0)) (Rdr_packo (o := (some L_0)))
  replace h := h.slotc 0 rfl (fun _ _ h => lp_eqv h)
  replace h := h.sub [0, 1, 2, 3] (by rfl)
  change SatL c [.slot 0 (eqVP p_0), .slot 1 (intVP .i64 a_1), .slot 6 (boolVP (!decide (L_0.f_e = (0 : Int)))), .res (Rdr_e p_0 (some L_0))] a w at h
  show Code.wp Tryz.prog _ _ a w
  refine cnd h hF 2 [3] [0, 1, 3] (fun hb1 hF h => ?_) (fun hb1 hF h => ?_)
  · refine regS mixed hn hG h [500, 0] (ov [] (op_assign (opc (sc _ (by decide)))) .nil) fun _ a w h => ?_
    refine wp_ret ?_
    obtain rfl := Option.some.inj hF
    exact ⟨.inl rfl, ret1 h Tryz.results90 (r_tmp 0 rfl) [1] [(Rdr_e p_0 (some L_0))] rfl rfl rfl⟩
  · have hp := h.isp 2 rfl (fun Φ f w q => Rdr_lp Φ f w q)
    replace h := h.slotc 0 rfl (V' := lpVP p_0 0) (fun _ _ h => eq_lp h hp)
    replace h := h.sub [0, 1, 2] (by rfl)
    change SatL c [.slot 0 (lpVP p_0 0), .slot 1 (intVP .i64 a_1), .res (lb p_0 168 [one (strVP L_0.f_s), one (intVP .i64 L_0.f_e)])] a w at h
    refine wp_seq ?_
    refine reg mixed hn hG h [0, 1, 500, 2] (ov [1] (op_move q0) <| ov [0] (op_move q0) <| ov [500] (op_nilCheck q0 (ptr_lp _ _)) <| ov [500] (op_fieldAddr_lbm (p := p_0) (n := 1) 0 0 Tryz.underlying168 rfl Tryz.sizeOf9 (by decide) q0 rfl) <| ov [500, 2] (op_load_lb1 [] [one (intVP .i64 L_0.f_e)] 1 Tryz.isAgg9 q0 rfl rfl) <| ov [500] (op_len_str Tryz.underlying9 q0) <| ov [505, 500] (op_bin bin_gtr q0 q1) <| ov [500] (op_assign q0) .nil) fun _ a w h => ?_
    replace h := h.conv 3 rfl (R' := Rdr_e p_0 (some L_0)) (Rdr_packo (o := (some L_0)))
    replace h := h.slotc 0 rfl (fun _ _ h => lp_eqv h)
    replace h := h.sub [0, 1, 2, 3] (by rfl)
    change SatL c [.slot 0 (eqVP p_0), .slot 1 (intVP .i64 a_1), .slot 16 (boolVP (decide ((L_0.f_s.length : Int) < a_1))), .res (Rdr_e p_0 (some L_0))] a w at h
    show Code.wp Tryz.prog _ _ a w
    refine cnd h hF 2 [0, 3] [0, 1, 3] (fun hb2 hF h => ?_) (fun hb2 hF h => ?_)
    · have hp := h.isp 1 rfl (fun Φ f w q => Rdr_lp Φ f w q)
      replace h := h.slotc 0 rfl (V' := lpVP p_0 0) (fun _ _ h => eq_lp h hp)
      replace h := h.sub [0, 1] (by rfl)
      change SatL c [.slot 0 (lpVP p_0 0), .res (lb p_0 168 [one (strVP L_0.f_s), one (intVP .i64 L_0.f_e)])] a w at h
      refine wp_seq ?_
      refine reg mixed hn hG h [500] (ov [0] (op_move q0) <| ov [500] (op_nilCheck q0 (ptr_lp _ _)) <| ov [500] (op_fieldAddr_lbm (p := p_0) (n := 1) 0 1 Tryz.underlying168 rfl Tryz.sizeOf49 (by decide) q0 rfl) <| ou [500] 1 (op_store_lb [one (strVP L_0.f_s)] [one (intVP .i64 L_0.f_e)] [] [one (intVP .i64 3)] Tryz.sizeOf49 q0 qi (cells_one (one_int _ _)) rfl rfl rfl) .nil) fun _ a w h => ?_
      replace h := h.conv 0 rfl (R' := Rdr_e p_0 (some ⟨L_0.f_s, 3⟩)) (Rdr_packo (o := (some ⟨L_0.f_s, 3⟩)))
      replace h := h.sub [0] (by rfl)
      change SatL c [.res (Rdr_e p_0 (some ⟨L_0.f_s, 3⟩))] a w at h
      show Code.wp Tryz.prog _ _ a w
      refine regS mixed hn hG h [500, 0] (ov [] (op_assign (opc (sc _ (by decide)))) .nil) fun _ a w h => ?_
      refine wp_ret ?_
      obtain rfl := Option.some.inj hF
      exact ⟨.inl rfl, ret1 h Tryz.results90 (r_tmp 0 rfl) [1] [(Rdr_e p_0 (some ⟨L_0.f_s, 3⟩))] rfl rfl rfl⟩
    · refine wp_skip ?_
      show Code.wp Tryz.prog _ _ a w
      have hp := h.isp 2 rfl (fun Φ f w q => Rdr_lp Φ f w q)
      replace h := h.slotc 0 rfl (V' := lpVP p_0 0) (fun _ _ h => eq_lp h hp)
      replace h := h.sub [0, 1, 2] (by rfl)
      change SatL c [.slot 0 (lpVP p_0 0), .slot 1 (intVP .i64 a_1), .res (lb p_0 168 [one (strVP L_0.f_s), one (intVP .i64 L_0.f_e)])] a w at h
      obtain ⟨hv3, hF⟩ := ite_some hF
      refine wp_seq ?_
      refine reg mixed hn hG h [0, 1, 500, 2] (ov [0] (op_move q0) <| ov [500] (op_nilCheck q0 (ptr_lp _ _)) <| ov [500] (op_fieldAddr_lbm (p := p_0) (n := 1) 0 0 Tryz.underlying168 rfl Tryz.sizeOf9 (by decide) q0 rfl) <| ov [500, 2] (op_load_lb1 [] [one (intVP .i64 L_0.f_e)] 1 Tryz.isAgg9 q0 rfl rfl) <| ov [1] (op_move q0) <| ov [501, 500] (op_slice_str (a := 0) (b := a_1) Tryz.underlying9 q0 rfl ⟨_, q1⟩ hv3) <| ov [500] (op_assign q0) .nil) fun _ a w h => ?_
      replace h := h.conv 3 rfl (R' := Rdr_e p_0 (some L_0)) (Rdr_packo (o := (some L_0)))
      replace h := h.slotc 0 rfl (fun _ _ h => lp_eqv h)
      replace h := h.sub [0, 1, 2, 3] (by rfl)
      change SatL c [.slot 0 (eqVP p_0), .slot 1 (intVP .i64 a_1), .slot 5 (strVP ((L_0.f_s.take a_1.toNat).drop (0 : Int).toNat)), .res (Rdr_e p_0 (some L_0))] a w at h
      show Code.wp Tryz.prog _ _ a w
      have hp := h.isp 3 rfl (fun Φ f w q => Rdr_lp Φ f w q)
      replace h := h.slotc 0 rfl (V' := lpVP p_0 0) (fun _ _ h => eq_lp h hp)
      replace h := h.sub [0, 1, 2, 3] (by rfl)
      change SatL c [.slot 0 (lpVP p_0 0), .slot 1 (intVP .i64 a_1), .slot 5 (strVP ((L_0.f_s.take a_1.toNat).drop (0 : Int).toNat)), .res (lb p_0 168 [one (strVP L_0.f_s), one (intVP .i64 L_0.f_e)])] a w at h
      obtain ⟨hv4, hF⟩ := ite_some hF
      refine wp_seq ?_
      refine reg mixed hn hG h [2, 500] (ov [0] (op_move q0) <| ov [0] (op_move q0) <| ov [500] (op_nilCheck q0 (ptr_lp _ _)) <| ov [500] (op_fieldAddr_lbm (p := p_0) (n := 1) 0 0 Tryz.underlying168 rfl Tryz.sizeOf9 (by decide) q0 rfl) <| ov [500, 3] (op_load_lb1 [] [one (intVP .i64 L_0.f_e)] 1 Tryz.isAgg9 q0 rfl rfl) <| ov [1] (op_move q0) <| ov [501, 500] (op_slice_str (a := a_1) (b := (L_0.f_s.length : Int)) Tryz.underlying9 q0 ⟨_, q1⟩ rfl hv4) <| ov [506] (op_nilCheck q0 (ptr_lp _ _)) <| ov [500] (op_fieldAddr_lbm (p := p_0) (n := 1) 0 0 Tryz.underlying168 rfl Tryz.sizeOf9 (by decide) q0 rfl) <| ou [500, 502] 3 (op_store_lb [] [one (strVP L_0.f_s)] [one (intVP .i64 L_0.f_e)] [one (strVP ((L_0.f_s.take (L_0.f_s.length : Int).toNat).drop a_1.toNat))] Tryz.sizeOf9 q0 q1 (cells_one (one_str _)) rfl rfl rfl) .nil) fun _ a w h => ?_
      replace h := h.conv 1 rfl (R' := Rdr_e p_0 (some ⟨(L_0.f_s.take (L_0.f_s.length : Int).toNat).drop a_1.toNat, L_0.f_e⟩)) (Rdr_packo (o := (some ⟨(L_0.f_s.take (L_0.f_s.length : Int).toNat).drop a_1.toNat, L_0.f_e⟩)))
      replace h := h.sub [0, 1] (by rfl)
      change SatL c [.slot 5 (strVP ((L_0.f_s.take a_1.toNat).drop (0 : Int).toNat)), .res (Rdr_e p_0 (some ⟨(L_0.f_s.take (L_0.f_s.length : Int).toNat).drop a_1.toNat, L_0.f_e⟩))] a w at h
      show Code.wp Tryz.prog _ _ a w
      refine regS mixed hn hG h [500, 1] (ov [0] (op_move q0) <| ov [500] (op_assign q0) .nil) fun _ a w h => ?_
      refine wp_ret ?_
      obtain rfl := Option.some.inj hF
      exact ⟨.inl rfl, ret1 h Tryz.results90 (r_tmp 0 rfl) [1] [(Rdr_e p_0 (some ⟨(L_0.f_s.take (L_0.f_s.length : Int).toNat).drop a_1.toNat, L_0.f_e⟩))] rfl rfl rfl⟩

def wire_Reader_number.b1 (r1 : (List UInt8) × O_Rdr) (x4 : Int) (x5 : Int) : Option (Flow (Int × O_Rdr) (Int × Int)) := (if (decide (x5 < (r1.1.length : Int))) = true then (if (0 : Int) ≤ x5 ∧ x5 < r1.1.length then some (.cont (bits .or .u64 (shl .u64 x4 8) (IntKind.wrap .u64 ((r1.1.getD x5.toNat default).toNat)), IntKind.wrap .i64 (x5 + 1))) else none) else some (.brk (x4, x5)))
def wire_Reader_number (L_0 : O_Rdr) (a_1 : Int) : Option (Int × O_Rdr) := ((wire_Reader_take L_0 a_1).bind fun r1 => ((loopN (fun s : Int × Int => wire_Reader_number.b1 r1 s.1 s.2) (((r1.1.length : Int) - 0 : Int).toNat + 2) (0, 0)).bind fun cr => match cr with | .ret r => some r | .next (y16, y17) => some (y16, r1.2)))
theorem wire_Reader_number_ok {p_0 : Value} {L_0 : O_Rdr} {a_1 : Int} {r : Int × O_Rdr} (hF : wire_Reader_number L_0 a_1 = some r) : CallOk Tryz.prog KG 89 [(eqVP p_0), (intVP .i64 a_1)] [(Rdr_e p_0 (some L_0))] (fun _ => [Rdr_e p_0 (some r.2)]) (intVP .u64 r.1) := by
  refine CallOk.intro 24 Tryz.func89 rfl Tryz.ntmps89 (Nat.le_of_ble_eq_true rfl) ?_
  intro c a w hG hn h
  unfold wire_Reader_number at hF
  change SatL c [.slot 0 (eqVP p_0), .slot 1 (intVP .i64 a_1), .res (Rdr_e p_0 (some L_0))] a w at h
  refine regS mixed hn hG h [0, 1, 2] (ov [] (op_assign qi) .nil) fun _ a w h => ?_
  refine regS mixed hn hG h [0, 1, 500, 2] (ov [] (op_assign qi) .nil) fun _ a w h => ?_
  refine wp_seq ?_
  obtain ⟨r1, hr1, hF⟩ := bind_some hF
  refine regS mixed hn hG h [2, 502, 501, 500, 503] (ov [0] (op_move q0) <| ov [1] (op_move q0) <| oc [501, 500] [3] Tryz.call90 (wire_Reader_take_ok hr1) ⟨q0, q1, trivial⟩ <| ov [501] (op_conv_str_sl Tryz.underlying9 Tryz.underlying119 Tryz.underlying5 q0) <| ov [500] (op_len_sl Tryz.underlying119 q0) <| ov [] (op_move qi) .nil) fun _ a w h => ?_
  refine wp_block ?_
  obtain ⟨cr12, hl13, hF⟩ := bind_some hF
  refine wp_mono (wp_loopN (R := Int × O_Rdr) (S := Int × Int) (fun s a w => SatL c [.slot 5 (intVP .u64 s.1), .slot 11 (slVP bC r1.1), .slot 12 (intVP .i64 (r1.1.length : Int)), .slot 13 (intVP .i64 s.2), .res (Rdr_e p_0 (some r1.2))] a w) (fun res e a w => match res with | .next s => e = .exit 0 ∧ SatL c [.slot 5 (intVP .u64 s.1), .res (Rdr_e p_0 (some r1.2))] a w | .ret r => e = .ret ∧ RetOk Tryz.prog Tryz.f89 c (intVP .u64 r.1) (fun _ => [Rdr_e p_0 (some r.2)]) a w) ?_ _ (0, 0) _ _ _ (h.sub [0, 1, 2, 3, 4] (by rfl)) hl13) ?_
  · clear hl13 hF h
    intro s a w o h hF
    obtain ⟨x4, x5⟩ := s
    change wire_Reader_number.b1 r1 x4 x5 = some o at hF
    unfold wire_Reader_number.b1 at hF
    change SatL c [.slot 5 (intVP .u64 x4), .slot 11 (slVP bC r1.1), .slot 12 (intVP .i64 (r1.1.length : Int)), .slot 13 (intVP .i64 x5), .res (Rdr_e p_0 (some r1.2))] a w at h
    refine regS mixed hn hG h [0, 1, 2, 3, 500, 4] (ov [3, 2] (op_bin bin_lss q0 q1) .nil) fun _ a w h => ?_
    refine wp_seq ?_
    refine cnd h hF 4 [0, 1, 2, 3, 5] [0, 1, 2, 3, 5] (fun hb10 hF h => ?_) (fun hb10 hF h => ?_)
    · refine wp_skip ?_
      show Code.wp Tryz.prog _ _ a w
      refine wp_seq ?_
      refine wp_block ?_
      obtain ⟨hv11, hF⟩ := ite_some hF
      refine regS mixed hn hG h [0, 500, 1, 2, 3, 4] (ov [1, 3] (op_indexAddr_sl Tryz.underlying119 Tryz.sizeOf5 lens_bC q0 q1 hv11) <| ov [500] (op_load_pp1 [] Tryz.isAgg5 q0) <| ov [500] (op_assign q0) .nil) fun _ a w h => ?_
      refine reg mixed hn hG h [500, 2, 3, 4, 5] (ov [0] (op_move q0) <| ov [500] (op_bin (bin_shlu rfl) q0 qi) <| ov [1] (op_move q0) <| ov [500] (op_convert_int Tryz.underlying5 Tryz.underlying32 q0) <| ov [502, 500] (op_bin bin_or q0 q1) <| od [500] 0 (op_assign q0) .nil) fun _ a w h => ?_
      show Code.wp Tryz.prog _ _ a w
      refine reg mixed hn hG h [0, 1, 2, 500, 4] (ov [3] (op_bin bin_add q0 qi) <| od [500] 3 (op_move q0) .nil) fun _ a w h => ?_
      obtain rfl := Option.some.inj hF
      exact ⟨rfl, h.sub [0, 1, 2, 3, 4] (by rfl)⟩
    · refine wp_exit ?_
      obtain rfl := Option.some.inj hF
      exact ⟨exit_ne _, rfl, h.sub [0, 4] (by rfl)⟩
  · clear hl13
    intro e a w hq
    cases cr12 with
    | ret r14 =>
      obtain ⟨rfl, hq⟩ := hq
      obtain rfl := Option.some.inj hF
      exact ⟨.inl rfl, hq⟩
    | next s15 =>
      obtain ⟨y16, y17⟩ := s15
      obtain ⟨rfl, h⟩ := hq
      change SatL c [.slot 5 (intVP .u64 y16), .res (Rdr_e p_0 (some r1.2))] a w at h
      refine inBlock_at ?_
      show Code.wp Tryz.prog _ _ a w
      refine regS mixed hn hG h [500, 1] (ov [0] (op_move q0) <| ov [500] (op_assign q0) .nil) fun _ a w h => ?_
      refine wp_ret ?_
      obtain rfl := Option.some.inj hF
      exact ⟨.inl rfl, ret1 h Tryz.results89 (r_tmp 0 rfl) [1] [(Rdr_e p_0 (some r1.2))] rfl rfl rfl⟩

def wire_Reader_Byte (L_0 : O_Rdr) : Option (Int × O_Rdr) := ((wire_Reader_number L_0 1).bind fun r1 => some (IntKind.wrap .u8 r1.1, r1.2))
theorem wire_Reader_Byte_ok {p_0 : Value} {L_0 : O_Rdr} {r : Int × O_Rdr} (hF : wire_Reader_Byte L_0 = some r) : CallOk Tryz.prog KG 73 [(eqVP p_0)] [(Rdr_e p_0 (some L_0))] (fun _ => [Rdr_e p_0 (some r.2)]) (intVP .u8 r.1) := by
  refine CallOk.intro 6 Tryz.func73 rfl Tryz.ntmps73 (Nat.le_of_ble_eq_true rfl) ?_
  intro c a w hG hn h
  unfold wire_Reader_Byte at hF
  change SatL c [.slot 0 (eqVP p_0), .res (Rdr_e p_0 (some L_0))] a w at h
  refine regS mixed hn hG h [0, 1] (ov [] (op_assign qi) .nil) fun _ a w h => ?_
  obtain ⟨r1, hr1, hF⟩ := bind_some hF
  refine regS mixed hn hG h [500, 502] (ov [0] (op_move q0) <| oc [500] [1] Tryz.call89 (wire_Reader_number_ok hr1) ⟨q0, qi, trivial⟩ <| ov [501] (op_convert_int Tryz.underlying32 Tryz.underlying5 q0) <| ov [500] (op_assign q0) .nil) fun _ a w h => ?_
  refine wp_ret ?_
  obtain rfl := Option.some.inj hF
  exact ⟨.inl rfl, ret1 h Tryz.results73 (r_tmp 0 rfl) [1] [(Rdr_e p_0 (some r1.2))] rfl rfl rfl⟩

def wire_Reader_Word (L_0 : O_Rdr) : Option (Int × O_Rdr) := ((wire_Reader_number L_0 4).bind fun r1 => some (IntKind.wrap .u32 r1.1, r1.2))
theorem wire_Reader_Word_ok {p_0 : Value} {L_0 : O_Rdr} {r : Int × O_Rdr} (hF : wire_Reader_Word L_0 = some r) : CallOk Tryz.prog KG 74 [(eqVP p_0)] [(Rdr_e p_0 (some L_0))] (fun _ => [Rdr_e p_0 (some r.2)]) (intVP .u32 r.1) := by
  refine CallOk.intro 6 Tryz.func74 rfl Tryz.ntmps74 (Nat.le_of_ble_eq_true rfl) ?_
  intro c a w hG hn h
  unfold wire_Reader_Word at hF
  change SatL c [.slot 0 (eqVP p_0), .res (Rdr_e p_0 (some L_0))] a w at h
  refine regS mixed hn hG h [0, 1] (ov [] (op_assign qi) .nil) fun _ a w h => ?_
  obtain ⟨r1, hr1, hF⟩ := bind_some hF
  refine regS mixed hn hG h [500, 502] (ov [0] (op_move q0) <| oc [500] [1] Tryz.call89 (wire_Reader_number_ok hr1) ⟨q0, qi, trivial⟩ <| ov [501] (op_convert_int Tryz.underlying32 Tryz.underlying31 q0) <| ov [500] (op_assign q0) .nil) fun _ a w h => ?_
  refine wp_ret ?_
  obtain rfl := Option.some.inj hF
  exact ⟨.inl rfl, ret1 h Tryz.results74 (r_tmp 0 rfl) [1] [(Rdr_e p_0 (some r1.2))] rfl rfl rfl⟩

def wire_Reader_Long (L_0 : O_Rdr) : Option (Int × O_Rdr) := ((wire_Reader_number L_0 8).bind fun r1 => some (r1.1, r1.2))
theorem wire_Reader_Long_ok {p_0 : Value} {L_0 : O_Rdr} {r : Int × O_Rdr} (hF : wire_Reader_Long L_0 = some r) : CallOk Tryz.prog KG 75 [(eqVP p_0)] [(Rdr_e p_0 (some L_0))] (fun _ => [Rdr_e p_0 (some r.2)]) (intVP .u64 r.1) := by
  refine CallOk.intro 5 Tryz.func75 rfl Tryz.ntmps75 (Nat.le_of_ble_eq_true rfl) ?_
  intro c a w hG hn h
  unfold wire_Reader_Long at hF
  change SatL c [.slot 0 (eqVP p_0), .res (Rdr_e p_0 (some L_0))] a w at h
  refine regS mixed hn hG h [0, 1] (ov [] (op_assign qi) .nil) fun _ a w h => ?_
  obtain ⟨r1, hr1, hF⟩ := bind_some hF
  refine regS mixed hn hG h [500, 501] (ov [0] (op_move q0) <| oc [500] [1] Tryz.call89 (wire_Reader_number_ok hr1) ⟨q0, qi, trivial⟩ <| ov [501] (op_assign q0) .nil) fun _ a w h => ?_
  refine wp_ret ?_
  obtain rfl := Option.some.inj hF
  exact ⟨.inl rfl, ret1 h Tryz.results75 (r_tmp 0 rfl) [1] [(Rdr_e p_0 (some r1.2))] rfl rfl rfl⟩

def wire_Reader_Digest (L_0 : O_Rdr) : Option ((List UInt8) × O_Rdr) := ((wire_Reader_take L_0 32).bind fun r3 => some ((List.replicate 32 0).take (0 : Int).toNat ++ r3.1.take (min r3.1.length ((32 : Int).toNat - (0 : Int).toNat)) ++ (List.replicate 32 0).drop ((0 : Int).toNat + (min r3.1.length ((32 : Int).toNat - (0 : Int).toNat))), r3.2))
theorem wire_Reader_Digest_ok {p_0 : Value} {L_0 : O_Rdr} {r : (List UInt8) × O_Rdr} (hF : wire_Reader_Digest L_0 = some r) : CallOk Tryz.prog KG 76 [(eqVP p_0)] [(Rdr_e p_0 (some L_0))] (fun _ => [Rdr_e p_0 (some r.2)]) (aggVP [bytesCk 32 r.1]) := by
  refine CallOk.intro 9 Tryz.func76 rfl Tryz.ntmps76 (Nat.le_of_ble_eq_true rfl) ?_
  intro c a w hG hn h
  unfold wire_Reader_Digest at hF
  change SatL c [.slot 0 (eqVP p_0), .res (Rdr_e p_0 (some L_0))] a w at h
  refine regS mixed hn hG h [0, 501, 1, 500] (ob [] (op_alloc Tryz.zeroValue23 z23) .nil) fun b1 a w h => ?_
  refine regS mixed hn hG h [0, 1, 501, 2, 3, 500] (ob [] (op_alloc Tryz.zeroValue23 z23) .nil) fun b2 a w h => ?_
  obtain ⟨r3, hr3, hF⟩ := bind_some hF
  refine regS mixed hn hG h [1, 2, 4, 500, 502] (ov [2] (op_slice_lb (a := 0) (b := 32) Tryz.underlying23 Tryz.sizeOf5 q0 rfl rfl (by decide)) <| ov [0] (op_move q0) <| oc [500] [3] Tryz.call90 (wire_Reader_take_ok hr3) ⟨q0, qi, trivial⟩ <| oe [503, 501] [5] (GOk.plain (op_copy_str (i := (0 : Int).toNat) [] [] Tryz.underlying119 rfl q0 q1 (by rfl) (by decide) (by decide)) rfl) .nil) fun _ a w h => ?_
  refine regS mixed hn hG h [0, 500, 4] (ov [1, 3] (op_load_w 1 Tryz.isAgg23 Tryz.sizeOf23 q0) <| ou [0, 500] 2 (op_store_w Tryz.sizeOf23 q0 q1 (cells_agg _)) .nil) fun _ a w h => ?_
  refine wp_ret ?_
  obtain rfl := Option.some.inj hF
  exact ⟨.inl rfl, ret1 h Tryz.results76 (r_cell 0 1 rfl rfl Tryz.isAgg23 Tryz.sizeOf23 rfl) [2] [(Rdr_e p_0 (some r3.2))] rfl rfl rfl⟩

def wire_Reader_End.j1 (L_0 : O_Rdr) (x2 : Bool) : Option (Int × O_Rdr) := (if x2 = true then some (4, L_0) else some (L_0.f_e, L_0))
def wire_Reader_End (L_0 : O_Rdr) : Option (Int × O_Rdr) := (if (decide (L_0.f_e = (0 : Int))) = true then wire_Reader_End.j1 L_0 (!decide (L_0.f_s = [])) else wire_Reader_End.j1 L_0 false)
theorem wire_Reader_End_ok {p_0 : Value} {L_0 : O_Rdr} {r : Int × O_Rdr} (hF : wire_Reader_End L_0 = some r) : CallOk Tryz.prog KG 77 [(eqVP p_0)] [(Rdr_e p_0 (some L_0))] (fun _ => [Rdr_e p_0 (some r.2)]) (intVP .i64 r.1) := by
  refine CallOk.intro 23 Tryz.func77 rfl Tryz.ntmps77 (Nat.le_of_ble_eq_true rfl) ?_
  intro c a w hG hn h
  unfold wire_Reader_End at hF
  change SatL c [.slot 0 (eqVP p_0), .res (Rdr_e p_0 (some L_0))] a w at h
  refine regS mixed hn hG h [0, 1] (ov [] (op_assign qi) .nil) fun _ a w h => ?_
  refine wp_seq ?_
  refine wp_block ?_
  have hp := h.isp 1 rfl (fun Φ f w q => Rdr_lp Φ f w q)
  replace h := h.slotc 0 rfl (V' := lpVP p_0 0) (fun _ _ h => eq_lp h hp)
  replace h := h.sub [0, 1] (by rfl)
  change SatL c [.slot 0 (lpVP p_0 0), .res (lb p_0 168 [one (strVP L_0.f_s), one (intVP .i64 L_0.f_e)])] a w at h
  refine wp_seq ?_
  refine reg mixed hn hG h [0, 500, 1] (ov [0] (op_move q0) <| ov [500] (op_bin (bin_pnil Tryz.underlying142) (lp_ptr q0) (opc (ec _))) <| ov [500] (op_assign q0) .nil) fun _ a w h => ?_
  replace h := h.conv 2 rfl (R' := Rdr_e p_0 (some L_0)) (Rdr_packo (o := (some L_0)))
  replace h := h.slotc 0 rfl (fun _ _ h => lp_eqv h)
  replace h := h.sub [0, 1, 2] (by rfl)
  change SatL c [.slot 0 (eqVP p_0), .slot 3 (boolVP false), .res (Rdr_e p_0 (some L_0))] a w at h
  show Code.wp Tryz.prog _ _ a w
  refine cond_L h 1 rfl (fun hb1 => ?_) (fun hb1 => ?_)
  · cases hb1
  · skip
    replace h := h.sel [0, 2]
    have hp := h.isp 1 rfl (fun Φ f w q => Rdr_lp Φ f w q)
    replace h := h.slotc 0 rfl (V' := lpVP p_0 0) (fun _ _ h => eq_lp h hp)
    replace h := h.sub [0, 1] (by rfl)
    change SatL c [.slot 0 (lpVP p_0 0), .res (lb p_0 168 [one (strVP L_0.f_s), one (intVP .i64 L_0.f_e)])] a w at h
    refine wp_seq ?_
    refine wp_cut (fun a w => ∃ (x2 : Bool), wire_Reader_End.j1 L_0 x2 = some r ∧ SatL c [.slot 0 (eqVP p_0), .slot 6 (boolVP x2), .res (Rdr_e p_0 (some L_0))] a w) ?_ ?_
    · rcases Bool.eq_false_or_eq_true (decide (L_0.f_e = (0 : Int))) with hb4 | hb4
      · replace hF := tt_of hb4 hF
        refine reg mixed hn hG h [0, 500, 1] (ov [0] (op_move q0) <| ov [500] (op_nilCheck q0 (ptr_lp _ _)) <| ov [500] (op_fieldAddr_lbm (p := p_0) (n := 1) 0 1 Tryz.underlying168 rfl Tryz.sizeOf49 (by decide) q0 rfl) <| ov [500, 1] (op_load_lb1 [one (strVP L_0.f_s)] [] 1 Tryz.isAgg49 q0 rfl rfl) <| ov [500] (op_bin bin_eql q0 qi) <| ov [500] (op_move q0) <| oe [500, 0] [] (GOk.on_eq hb4 rfl rfl rfl (op_move q0)) <| oe [501, 500] [] (GOk.on_eq hb4 rfl rfl rfl (op_nilCheck q0 (ptr_lp _ _))) <| oe [502, 500] [] (GOk.on_eq hb4 rfl rfl rfl (op_fieldAddr_lbm (p := p_0) (n := 1) 0 0 Tryz.underlying168 rfl Tryz.sizeOf9 (by decide) q0 rfl)) <| oe [503, 500, 1] [] (GOk.on_eq hb4 rfl rfl rfl (op_load_lb1 [] [one (intVP .i64 L_0.f_e)] 1 Tryz.isAgg9 q0 rfl rfl)) <| oe [504, 500] [] (GOk.on_eq hb4 rfl rfl rfl (op_bin bin_sneq q0 (opc (sc _ (by decide))))) <| ov [505, 500] (op_pick_t hb4 q0 q1) <| ov [500] (op_assign q0) .nil) fun _ a w h => ?_
        replace h := h.conv 2 rfl (R' := Rdr_e p_0 (some L_0)) (Rdr_packo (o := (some L_0)))
        replace h := h.slotc 0 rfl (fun _ _ h => lp_eqv h)
        replace h := h.sub [0, 1, 2] (by rfl)
        change SatL c [.slot 0 (eqVP p_0), .slot 6 (boolVP (!decide (L_0.f_s = []))), .res (Rdr_e p_0 (some L_0))] a w at h
        exact ⟨!decide (L_0.f_s = []), hF, h.sub [0, 1, 2] (by rfl)⟩
      · replace hF := ff_of hb4 hF
        refine reg mixed hn hG h [0, 500, 1] (ov [0] (op_move q0) <| ov [500] (op_nilCheck q0 (ptr_lp _ _)) <| ov [500] (op_fieldAddr_lbm (p := p_0) (n := 1) 0 1 Tryz.underlying168 rfl Tryz.sizeOf49 (by decide) q0 rfl) <| ov [500, 1] (op_load_lb1 [one (strVP L_0.f_s)] [] 1 Tryz.isAgg49 q0 rfl rfl) <| ov [500] (op_bin bin_eql q0 qi) <| ov [500] (op_move q0) <| oe [500] [] (GOk.off_v (want := true) hb4 rfl rfl rfl rfl) <| oe [501] [] (GOk.off_v (want := true) hb4 rfl rfl rfl rfl) <| oe [502] [] (GOk.off_v (want := true) hb4 rfl rfl rfl rfl) <| oe [503] [] (GOk.off_v (want := true) hb4 rfl rfl rfl rfl) <| oe [504] [] (GOk.off_v (want := true) hb4 rfl rfl rfl rfl) <| ov [505] (op_pick_f hb4 q0 qb) <| ov [500] (op_assign q0) .nil) fun _ a w h => ?_
        replace h := h.conv 2 rfl (R' := Rdr_e p_0 (some L_0)) (Rdr_packo (o := (some L_0)))
        replace h := h.slotc 0 rfl (fun _ _ h => lp_eqv h)
        replace h := h.sub [0, 1, 2] (by rfl)
        change SatL c [.slot 0 (eqVP p_0), .slot 6 (boolVP false), .res (Rdr_e p_0 (some L_0))] a w at h
        exact ⟨false, hF, h.sub [0, 1, 2] (by rfl)⟩
    · clear h hF
      rintro a w ⟨x2, hF, h⟩
      unfold wire_Reader_End.j1 at hF
      show Code.wp Tryz.prog _ _ a w
      refine cnd h hF 1 [2] [0, 2] (fun hb3 hF h => ?_) (fun hb3 hF h => ?_)
      · refine regS mixed hn hG h [500, 0] (ov [] (op_assign qi) .nil) fun _ a w h => ?_
        refine wp_ret ?_
        obtain rfl := Option.some.inj hF
        exact ⟨.inl rfl, ret1 h Tryz.results77 (r_tmp 0 rfl) [1] [(Rdr_e p_0 (some L_0))] rfl rfl rfl⟩
      · refine wp_skip ?_
        show Code.wp Tryz.prog _ _ a w
        have hp := h.isp 1 rfl (fun Φ f w q => Rdr_lp Φ f w q)
        replace h := h.slotc 0 rfl (V' := lpVP p_0 0) (fun _ _ h => eq_lp h hp)
        replace h := h.sub [0, 1] (by rfl)
        change SatL c [.slot 0 (lpVP p_0 0), .res (lb p_0 168 [one (strVP L_0.f_s), one (intVP .i64 L_0.f_e)])] a w at h
        refine wp_seq ?_
        refine reg mixed hn hG h [500, 1] (ov [0] (op_move q0) <| ov [500] (op_nilCheck q0 (ptr_lp _ _)) <| ov [500] (op_fieldAddr_lbm (p := p_0) (n := 1) 0 1 Tryz.underlying168 rfl Tryz.sizeOf49 (by decide) q0 rfl) <| ov [500, 1] (op_load_lb1 [one (strVP L_0.f_s)] [] 1 Tryz.isAgg49 q0 rfl rfl) <| ov [500] (op_assign q0) .nil) fun _ a w h => ?_
        replace h := h.conv 1 rfl (R' := Rdr_e p_0 (some L_0)) (Rdr_packo (o := (some L_0)))
        replace h := h.sub [0, 1] (by rfl)
        change SatL c [.slot 2 (intVP .i64 L_0.f_e), .res (Rdr_e p_0 (some L_0))] a w at h
        show Code.wp Tryz.prog _ _ a w
        refine wp_ret ?_
        obtain rfl := Option.some.inj hF
        exact ⟨.inl rfl, ret1 h Tryz.results77 (r_tmp 0 rfl) [1] [(Rdr_e p_0 (some L_0))] rfl rfl rfl⟩

def notes_read.j1 (r4 : Int × O_Rdr) (r5 : Int × O_Rdr) (r6 : Int × O_Rdr) (r7 : (List UInt8) × O_Rdr) (r8 : (List UInt8) × O_Rdr) (r9 : Int × O_Rdr) (x14 : Bool) : Option (S_notes_Note × Bool) := some ((S_notes_Note.mk r4.1 r5.1 r6.1 r7.1 r8.1 r9.1), x14)
def notes_read (a_0 : List UInt8) : Option (S_notes_Note × Bool) := ((wire_Over a_0).bind fun r2 => ((wire_Reader_Byte r2).bind fun r4 => ((wire_Reader_Word r4.2).bind fun r5 => ((wire_Reader_Long r5.2).bind fun r6 => ((wire_Reader_Digest r6.2).bind fun r7 => ((wire_Reader_Digest r7.2).bind fun r8 => ((wire_Reader_Long r8.2).bind fun r9 => ((wire_Reader_Digest r9.2).bind fun r11 => ((wire_Reader_End r11.2).bind fun r12 => (if (decide (r12.1 = (0 : Int))) = true then ((notes_Bytes (S_notes_Note.mk r4.1 r5.1 r6.1 r7.1 r8.1 r9.1)).bind fun r13 => notes_read.j1 r4 r5 r6 r7 r8 r9 (decide (r13 = a_0))) else notes_read.j1 r4 r5 r6 r7 r8 r9 false))))))))))
theorem notes_read_ok {a_0 : List UInt8} {r : S_notes_Note × Bool} (hF : notes_read a_0 = some r) : CallOk Tryz.prog KG 57 [(strVP a_0)] [] (fun _ => []) (tupVP [(aggVP [one (intVP .u8 r.1.f_Kind), one (intVP .u32 r.1.f_Home), one (intVP .u64 r.1.f_Next), bytesCk 32 r.1.f_Old, bytesCk 32 r.1.f_New, one (intVP .u64 r.1.f_Sent)]), (boolVP r.2)]) := by
  refine CallOk.intro 33 Tryz.func57 rfl Tryz.ntmps57 (Nat.le_of_ble_eq_true rfl) ?_
  intro c a w hG hn h
  unfold notes_read at hF
  change SatL c [.slot 0 (strVP a_0)] a w at h
  refine regS mixed hn hG h [0, 502, 501] (ob [] (op_alloc Tryz.zeroValue63 z63) <| ov [] (op_assign qb) .nil) fun b1 a w h => ?_
  obtain ⟨r2, hr2, hF⟩ := bind_some hF
  refine regS mixed hn hG h [0, 1, 500, 2, 501] (ov [0] (op_move q0) <| og [500] [] [.slot 7 1 100000 (fun v1_ _ => (eqVP v1_)), .res 1 100000 (fun v1_ _ => (Rdr_e (v1_) (some r2)))] (GOk.plain (op_callv Tryz.call72 (wire_Over_ok hr2) ⟨q0, trivial⟩) rfl) <| og [501] [] [.slot 4 1 100000 (fun v1_ _ => (eqVP v1_))] (fun {β} => (GOk.plain (op_assign (V := (eqVP (β 1))) q0) rfl)) .nil) fun b3 a w h => ?_
  obtain ⟨r4, hr4, hF⟩ := bind_some hF
  obtain ⟨r5, hr5, hF⟩ := bind_some hF
  obtain ⟨r6, hr6, hF⟩ := bind_some hF
  obtain ⟨r7, hr7, hF⟩ := bind_some hF
  obtain ⟨r8, hr8, hF⟩ := bind_some hF
  obtain ⟨r9, hr9, hF⟩ := bind_some hF
  refine regS mixed hn hG h [0, 1, 2, 502, 3, 504, 500] (ov [2] (op_move q0) <| oc [500] [4] Tryz.call73 (wire_Reader_Byte_ok hr4) ⟨q0, trivial⟩ <| ov [2] (op_move q0) <| oc [500] [501] Tryz.call74 (wire_Reader_Word_ok hr5) ⟨q0, trivial⟩ <| ov [2] (op_move q0) <| oc [500] [501] Tryz.call75 (wire_Reader_Long_ok hr6) ⟨q0, trivial⟩ <| ov [2] (op_move q0) <| oc [500] [501] Tryz.call76 (wire_Reader_Digest_ok hr7) ⟨q0, trivial⟩ <| ov [2] (op_move q0) <| oc [500] [501] Tryz.call76 (wire_Reader_Digest_ok hr8) ⟨q0, trivial⟩ <| ov [2] (op_move q0) <| oc [500] [501] Tryz.call75 (wire_Reader_Long_ok hr9) ⟨q0, trivial⟩ <| ov [516, 513, 510, 507, 504, 501] (op_build [(0, .tmp 9), (1, .tmp 11), (2, .tmp 13), (3, .tmp 15), (4, .tmp 17), (5, .tmp 19)] rfl bu63 z63 ⟨[], [one (intVP .u8 (0 : Int))], [one (intVP .u32 (0 : Int)), one (intVP .u64 (0 : Int)), bytesCk 32 (List.replicate 32 0), bytesCk 32 (List.replicate 32 0), one (intVP .u64 (0 : Int))], [one (intVP .u8 r4.1)], _, rfl, rfl, rfl, q0, (cells_one (one_int _ _)), ⟨[one (intVP .u8 r4.1)], [one (intVP .u32 (0 : Int))], [one (intVP .u64 (0 : Int)), bytesCk 32 (List.replicate 32 0), bytesCk 32 (List.replicate 32 0), one (intVP .u64 (0 : Int))], [one (intVP .u32 r5.1)], _, rfl, rfl, rfl, q1, (cells_one (one_int _ _)), ⟨[one (intVP .u8 r4.1), one (intVP .u32 r5.1)], [one (intVP .u64 (0 : Int))], [bytesCk 32 (List.replicate 32 0), bytesCk 32 (List.replicate 32 0), one (intVP .u64 (0 : Int))], [one (intVP .u64 r6.1)], _, rfl, rfl, rfl, q2, (cells_one (one_int _ _)), ⟨[one (intVP .u8 r4.1), one (intVP .u32 r5.1), one (intVP .u64 r6.1)], [bytesCk 32 (List.replicate 32 0)], [bytesCk 32 (List.replicate 32 0), one (intVP .u64 (0 : Int))], [bytesCk 32 r7.1], _, rfl, rfl, rfl, q3, (cells_agg _), ⟨[one (intVP .u8 r4.1), one (intVP .u32 r5.1), one (intVP .u64 r6.1), bytesCk 32 r7.1], [bytesCk 32 (List.replicate 32 0)], [one (intVP .u64 (0 : Int))], [bytesCk 32 r8.1], _, rfl, rfl, rfl, (opt 4 rfl), (cells_agg _), ⟨[one (intVP .u8 r4.1), one (intVP .u32 r5.1), one (intVP .u64 r6.1), bytesCk 32 r7.1, bytesCk 32 r8.1], [one (intVP .u64 (0 : Int))], [], [one (intVP .u64 r9.1)], _, rfl, rfl, rfl, (opt 5 rfl), (cells_one (one_int _ _)), rfl⟩⟩⟩⟩⟩⟩) <| ob [] (op_alloc Tryz.zeroValue63 z63) <| og [501, 502] [500] [.res 13 100000 (fun v1_ _ => (lb (v1_) 63 [one (intVP .u8 r4.1), one (intVP .u32 r5.1), one (intVP .u64 r6.1), bytesCk 32 r7.1, bytesCk 32 r8.1, one (intVP .u64 r9.1)]))] (GOk.plain (op_store_w Tryz.sizeOf63 q0 q1 (cells_agg _)) rfl) .nil) fun b10 a w h => ?_
  obtain ⟨r11, hr11, hF⟩ := bind_some hF
  refine regS mixed hn hG h [0, 1, 2, 3, 4, 6, 500] (ov [2] (op_move q0) <| oc [500] [5] Tryz.call76 (wire_Reader_Digest_ok hr11) ⟨q0, trivial⟩ .nil) fun _ a w h => ?_
  refine wp_seq ?_
  obtain ⟨r12, hr12, hF⟩ := bind_some hF
  refine wp_cut (fun a w => ∃ (x14 : Bool), notes_read.j1 r4 r5 r6 r7 r8 r9 x14 = some r ∧ SatL c [.slot 2 (lpVP (b1 0) 0), .slot 3 (boolVP x14), .res (lb (b1 0) 63 [one (intVP .u8 r4.1), one (intVP .u32 r5.1), one (intVP .u64 r6.1), bytesCk 32 r7.1, bytesCk 32 r8.1, one (intVP .u64 r9.1)]), .res (Rdr_e (b3 1) (some r12.2))] a w) ?_ ?_
  · rcases Bool.eq_false_or_eq_true (decide (r12.1 = (0 : Int))) with hb15 | hb15
    · replace hF := tt_of hb15 hF
      obtain ⟨r13, hr13, hF⟩ := bind_some hF
      refine reg mixed hn hG h [1, 500, 501, 509] (ov [3, 5] (op_load_w 1 Tryz.isAgg63 Tryz.sizeOf63 q0) <| ov [2] (op_move q0) <| oc [500] [6] Tryz.call77 (wire_Reader_End_ok hr12) ⟨q0, trivial⟩ <| ov [501] (op_bin bin_eql q0 qi) <| ov [500] (op_move q0) <| oe [500, 3, 5] [] (GOk.on_eq hb15 rfl rfl rfl (op_load_w 1 Tryz.isAgg63 Tryz.sizeOf63 q0)) <| oe [501, 500] [] (GOk.on_eq hb15 rfl rfl rfl (op_call Tryz.call32 (notes_Bytes_ok hr13) ⟨q0, trivial⟩)) <| oe [502, 0] [] (GOk.on_eq hb15 rfl rfl rfl (op_move q0)) <| oe [503, 501, 500] [] (GOk.on_eq hb15 rfl rfl rfl (op_bin bin_seql q0 q1)) <| ov [504, 500] (op_pick_t hb15 q0 q1) <| ou [1, 510] 4 (op_store_w Tryz.sizeOf63 q0 q1 (cells_agg _)) <| ov [501] (op_assign q0) .nil) fun _ a w h => ?_
      exact ⟨decide (r13 = a_0), hF, h.sub [0, 1, 2, 3] (by rfl)⟩
    · replace hF := ff_of hb15 hF
      refine reg mixed hn hG h [1, 500, 501, 509] (ov [3, 5] (op_load_w 1 Tryz.isAgg63 Tryz.sizeOf63 q0) <| ov [2] (op_move q0) <| oc [500] [6] Tryz.call77 (wire_Reader_End_ok hr12) ⟨q0, trivial⟩ <| ov [501] (op_bin bin_eql q0 qi) <| ov [500] (op_move q0) <| oe [500] [] (GOk.off_v (want := true) hb15 rfl rfl rfl rfl) <| oe [501] [] (GOk.off_v (want := true) hb15 rfl rfl rfl rfl) <| oe [502] [] (GOk.off_v (want := true) hb15 rfl rfl rfl rfl) <| oe [503] [] (GOk.off_v (want := true) hb15 rfl rfl rfl rfl) <| ov [504] (op_pick_f hb15 q0 qb) <| ou [1, 510] 4 (op_store_w Tryz.sizeOf63 q0 q1 (cells_agg _)) <| ov [501] (op_assign q0) .nil) fun _ a w h => ?_
      exact ⟨false, hF, h.sub [0, 1, 2, 3] (by rfl)⟩
  · clear h hF
    rintro a w ⟨x14, hF, h⟩
    unfold notes_read.j1 at hF
    show Code.wp Tryz.prog _ _ a w
    refine wp_ret ?_
    obtain rfl := Option.some.inj hF
    exact ⟨.inl rfl, retn h (rs := [.cell 2 63, .tmp 3]) (Vs := [(aggVP [one (intVP .u8 r4.1), one (intVP .u32 r5.1), one (intVP .u64 r6.1), bytesCk 32 r7.1, bytesCk 32 r8.1, one (intVP .u64 r9.1)]), (boolVP x14)]) Tryz.results57 (by decide) ⟨(r_cell 0 2 rfl rfl Tryz.isAgg63 Tryz.sizeOf63 rfl), (r_tmp 1 rfl), trivial⟩ [] [] rfl rfl rfl⟩

def notes_Read.j1 (a_1 : Int) (a_2 : Int) (r2 : S_notes_Note × Bool) (x4 : Bool) : Option S_notes_Note := (if x4 = true then some (S_notes_Note.mk a_1 a_2 (0 : Int) (List.replicate 32 0) (List.replicate 32 0) (0 : Int)) else some r2.1)
def notes_Read (a_0 : List UInt8) (a_1 : Int) (a_2 : Int) : Option S_notes_Note := ((notes_read a_0).bind fun r2 => (if (!r2.2) = true then notes_Read.j1 a_1 a_2 r2 true else (if (!decide (r2.1.f_Kind = a_1)) = true then notes_Read.j1 a_1 a_2 r2 true else notes_Read.j1 a_1 a_2 r2 (!decide (r2.1.f_Home = a_2)))))
theorem notes_Read_ok {a_0 : List UInt8} {a_1 : Int} {a_2 : Int} {r : S_notes_Note} (hF : notes_Read a_0 a_1 a_2 = some r) : CallOk Tryz.prog KG 33 [(strVP a_0), (intVP .u8 a_1), (intVP .u32 a_2)] [] (fun _ => []) (aggVP [one (intVP .u8 r.f_Kind), one (intVP .u32 r.f_Home), one (intVP .u64 r.f_Next), bytesCk 32 r.f_Old, bytesCk 32 r.f_New, one (intVP .u64 r.f_Sent)]) := by
  refine CallOk.intro 32 Tryz.func33 rfl Tryz.ntmps33 (Nat.le_of_ble_eq_true rfl) ?_
  intro c a w hG hn h
  unfold notes_Read at hF
  change SatL c [.slot 0 (strVP a_0), .slot 1 (intVP .u8 a_1), .slot 2 (intVP .u32 a_2)] a w at h
  refine regS mixed hn hG h [0, 1, 2, 501, 500] (ob [] (op_alloc Tryz.zeroValue63 z63) .nil) fun b1 a w h => ?_
  obtain ⟨r2, hr2, hF⟩ := bind_some hF
  refine regS mixed hn hG h [1, 2, 3, 503, 500, 4, 501] (ov [0] (op_move q0) <| oc [500] [] Tryz.call57 (notes_read_ok hr2) ⟨q0, trivial⟩ <| ov [500] (op_move q0) <| ov [500] (op_extract q0 rfl) <| ov [501] (op_extract q0 rfl) <| ob [] (op_alloc Tryz.zeroValue63 z63) <| og [501, 503] [500] [.res 5 100000 (fun v1_ _ => (lb (v1_) 63 [one (intVP .u8 r2.1.f_Kind), one (intVP .u32 r2.1.f_Home), one (intVP .u64 r2.1.f_Next), bytesCk 32 r2.1.f_Old, bytesCk 32 r2.1.f_New, one (intVP .u64 r2.1.f_Sent)]))] (GOk.plain (op_store_w Tryz.sizeOf63 q0 q1 (cells_agg _)) rfl) <| ov [503] (op_assign q0) .nil) fun b3 a w h => ?_
  refine wp_seq ?_
  refine wp_seq ?_
  refine wp_cut (fun a w => ∃ (x4 : Bool), notes_Read.j1 a_1 a_2 r2 x4 = some r ∧ SatL c [.slot 1 (intVP .u8 a_1), .slot 2 (intVP .u32 a_2), .slot 6 (lpVP (b1 0) 0), .slot 7 (lpVP (b3 5) 0), .slot 27 (boolVP x4), .res (lb (b1 0) 63 [one (intVP .u8 ((S_notes_Note.mk (0 : Int) (0 : Int) (0 : Int) (List.replicate 32 0) (List.replicate 32 0) (0 : Int)).f_Kind)), one (intVP .u32 ((S_notes_Note.mk (0 : Int) (0 : Int) (0 : Int) (List.replicate 32 0) (List.replicate 32 0) (0 : Int)).f_Home)), one (intVP .u64 ((S_notes_Note.mk (0 : Int) (0 : Int) (0 : Int) (List.replicate 32 0) (List.replicate 32 0) (0 : Int)).f_Next)), bytesCk 32 ((S_notes_Note.mk (0 : Int) (0 : Int) (0 : Int) (List.replicate 32 0) (List.replicate 32 0) (0 : Int)).f_Old), bytesCk 32 ((S_notes_Note.mk (0 : Int) (0 : Int) (0 : Int) (List.replicate 32 0) (List.replicate 32 0) (0 : Int)).f_New), one (intVP .u64 ((S_notes_Note.mk (0 : Int) (0 : Int) (0 : Int) (List.replicate 32 0) (List.replicate 32 0) (0 : Int)).f_Sent))]), .res (lb (b3 5) 63 [one (intVP .u8 r2.1.f_Kind), one (intVP .u32 r2.1.f_Home), one (intVP .u64 r2.1.f_Next), bytesCk 32 r2.1.f_Old, bytesCk 32 r2.1.f_New, one (intVP .u64 r2.1.f_Sent)])] a w) ?_ ?_
  · rcases Bool.eq_false_or_eq_true (!r2.2) with hb6 | hb6
    · replace hF := tt_of hb6 hF
      refine reg mixed hn hG h [0, 1, 2, 3, 500, 5, 6] (ov [4] (op_move q0) <| ov [500] (op_un (un_not _) q0) <| ov [500] (op_move q0) <| oe [500] [] (GOk.off_v (want := false) hb6 rfl rfl rfl rfl) <| oe [501] [] (GOk.off_v (want := false) hb6 rfl rfl rfl rfl) <| oe [502] [] (GOk.off_v (want := false) hb6 rfl rfl rfl rfl) <| oe [503] [] (GOk.off_v (want := false) hb6 rfl rfl rfl rfl) <| ov [504] (op_pick_t hb6 q0 qb) <| ov [500] (op_move q0) <| oe [500] [] (GOk.off_v (want := false) rfl rfl rfl rfl rfl) <| oe [501] [] (GOk.off_v (want := false) rfl rfl rfl rfl rfl) <| oe [502] [] (GOk.off_v (want := false) rfl rfl rfl rfl rfl) <| oe [503] [] (GOk.off_v (want := false) rfl rfl rfl rfl rfl) <| ov [504] (op_pick_t rfl q0 qb) .nil) fun _ a w h => ?_
      exact ⟨true, hF, h.sub [0, 1, 2, 3, 4, 5, 6] (by rfl)⟩
    · replace hF := ff_of hb6 hF
      rcases Bool.eq_false_or_eq_true (!decide (r2.1.f_Kind = a_1)) with hb7 | hb7
      · replace hF := tt_of hb7 hF
        refine reg mixed hn hG h [0, 1, 2, 3, 500, 5, 6] (ov [4] (op_move q0) <| ov [500] (op_un (un_not _) q0) <| ov [500] (op_move q0) <| oe [500, 3] [] (GOk.on_eq hb6 rfl rfl rfl (op_fieldAddr_lbm (p := (b3 5)) (n := 1) 0 0 Tryz.underlying63 rfl Tryz.sizeOf5 (by decide) q0 rfl)) <| oe [501, 500, 6] [] (GOk.on_eq hb6 rfl rfl rfl (op_load_lb1 [] [one (intVP .u32 r2.1.f_Home), one (intVP .u64 r2.1.f_Next), bytesCk 32 r2.1.f_Old, bytesCk 32 r2.1.f_New, one (intVP .u64 r2.1.f_Sent)] 1 Tryz.isAgg5 q0 rfl rfl)) <| oe [502, 0] [] (GOk.on_eq hb6 rfl rfl rfl (op_move q0)) <| oe [503, 501, 500] [] (GOk.on_eq hb6 rfl rfl rfl (op_bin bin_neq q0 q1)) <| ov [504, 500] (op_pick_f hb6 q0 q1) <| ov [500] (op_move q0) <| oe [500] [] (GOk.off_v (want := false) hb7 rfl rfl rfl rfl) <| oe [501] [] (GOk.off_v (want := false) hb7 rfl rfl rfl rfl) <| oe [502] [] (GOk.off_v (want := false) hb7 rfl rfl rfl rfl) <| oe [503] [] (GOk.off_v (want := false) hb7 rfl rfl rfl rfl) <| ov [504] (op_pick_t hb7 q0 qb) .nil) fun _ a w h => ?_
        exact ⟨true, hF, h.sub [0, 1, 2, 3, 4, 5, 6] (by rfl)⟩
      · replace hF := ff_of hb7 hF
        refine reg mixed hn hG h [0, 1, 2, 3, 500, 5, 6] (ov [4] (op_move q0) <| ov [500] (op_un (un_not _) q0) <| ov [500] (op_move q0) <| oe [500, 3] [] (GOk.on_eq hb6 rfl rfl rfl (op_fieldAddr_lbm (p := (b3 5)) (n := 1) 0 0 Tryz.underlying63 rfl Tryz.sizeOf5 (by decide) q0 rfl)) <| oe [501, 500, 6] [] (GOk.on_eq hb6 rfl rfl rfl (op_load_lb1 [] [one (intVP .u32 r2.1.f_Home), one (intVP .u64 r2.1.f_Next), bytesCk 32 r2.1.f_Old, bytesCk 32 r2.1.f_New, one (intVP .u64 r2.1.f_Sent)] 1 Tryz.isAgg5 q0 rfl rfl)) <| oe [502, 0] [] (GOk.on_eq hb6 rfl rfl rfl (op_move q0)) <| oe [503, 501, 500] [] (GOk.on_eq hb6 rfl rfl rfl (op_bin bin_neq q0 q1)) <| ov [504, 500] (op_pick_f hb6 q0 q1) <| ov [500] (op_move q0) <| oe [500, 3] [] (GOk.on_eq hb7 rfl rfl rfl (op_fieldAddr_lbm (p := (b3 5)) (n := 1) 0 1 Tryz.underlying63 rfl Tryz.sizeOf31 (by decide) q0 rfl)) <| oe [501, 500, 6] [] (GOk.on_eq hb7 rfl rfl rfl (op_load_lb1 [one (intVP .u8 r2.1.f_Kind)] [one (intVP .u64 r2.1.f_Next), bytesCk 32 r2.1.f_Old, bytesCk 32 r2.1.f_New, one (intVP .u64 r2.1.f_Sent)] 1 Tryz.isAgg31 q0 rfl rfl)) <| oe [502, 1] [] (GOk.on_eq hb7 rfl rfl rfl (op_move q0)) <| oe [503, 501, 500] [] (GOk.on_eq hb7 rfl rfl rfl (op_bin bin_neq q0 q1)) <| ov [504, 500] (op_pick_f hb7 q0 q1) .nil) fun _ a w h => ?_
        exact ⟨!decide (r2.1.f_Home = a_2), hF, h.sub [0, 1, 2, 3, 4, 5, 6] (by rfl)⟩
  · clear h hF
    rintro a w ⟨x4, hF, h⟩
    unfold notes_Read.j1 at hF
    show Code.wp Tryz.prog _ _ a w
    refine cnd h hF 4 [0, 1, 2, 5] [2, 3, 5, 6] (fun hb5 hF h => ?_) (fun hb5 hF h => ?_)
    · refine regS mixed hn hG h [2, 500] (ov [0] (op_move q0) <| ov [1] (op_move q0) <| ov [501, 500] (op_build [(0, .tmp 28), (1, .tmp 29)] rfl bu63 z63 ⟨[], [one (intVP .u8 (0 : Int))], [one (intVP .u32 (0 : Int)), one (intVP .u64 (0 : Int)), bytesCk 32 (List.replicate 32 0), bytesCk 32 (List.replicate 32 0), one (intVP .u64 (0 : Int))], [one (intVP .u8 a_1)], _, rfl, rfl, rfl, q0, (cells_one (one_int _ _)), ⟨[one (intVP .u8 a_1)], [one (intVP .u32 (0 : Int))], [one (intVP .u64 (0 : Int)), bytesCk 32 (List.replicate 32 0), bytesCk 32 (List.replicate 32 0), one (intVP .u64 (0 : Int))], [one (intVP .u32 a_2)], _, rfl, rfl, rfl, q1, (cells_one (one_int _ _)), rfl⟩⟩) <| ou [2, 500] 3 (op_store_w Tryz.sizeOf63 q0 q1 (cells_agg _)) .nil) fun _ a w h => ?_
      refine wp_ret ?_
      obtain rfl := Option.some.inj hF
      exact ⟨.inl rfl, ret1 h Tryz.results33 (r_cell 0 1 rfl rfl Tryz.isAgg63 Tryz.sizeOf63 rfl) [] [] rfl rfl rfl⟩
    · refine wp_skip ?_
      show Code.wp Tryz.prog _ _ a w
      refine regS mixed hn hG h [0, 500] (ov [1, 3] (op_load_w 1 Tryz.isAgg63 Tryz.sizeOf63 q0) <| ou [0, 500] 2 (op_store_w Tryz.sizeOf63 q0 q1 (cells_agg _)) .nil) fun _ a w h => ?_
      refine wp_ret ?_
      obtain rfl := Option.some.inj hF
      exact ⟨.inl rfl, ret1 h Tryz.results33 (r_cell 0 1 rfl rfl Tryz.isAgg63 Tryz.sizeOf63 rfl) [] [] rfl rfl rfl⟩

def relayer_Note (a_0 : S_relayer_Relayer) : Option S_notes_Note := ((notes_Read a_0.f_Disk 2 a_0.f_Home).bind fun r3 => some r3)
theorem relayer_Note_ok {a_0 : S_relayer_Relayer} {r : S_notes_Note} (hF : relayer_Note a_0 = some r) : CallOk Tryz.prog KG 16 [(aggVP [one (intVP .u32 a_0.f_Home), one (strVP a_0.f_Disk)])] [] (fun _ => []) (aggVP [one (intVP .u8 r.f_Kind), one (intVP .u32 r.f_Home), one (intVP .u64 r.f_Next), bytesCk 32 r.f_Old, bytesCk 32 r.f_New, one (intVP .u64 r.f_Sent)]) := by
  refine CallOk.intro 8 Tryz.func16 rfl Tryz.ntmps16 (Nat.le_of_ble_eq_true rfl) ?_
  intro c a w hG hn h
  unfold relayer_Note at hF
  change SatL c [.slot 0 (aggVP [one (intVP .u32 a_0.f_Home), one (strVP a_0.f_Disk)])] a w at h
  refine regS mixed hn hG h [503, 501, 502, 500] (ob [0] (op_box q0 (cells_agg _)) <| ob [] (op_alloc Tryz.zeroValue63 z63) .nil) fun b1 a w h => ?_
  obtain ⟨r3, hr3, hF⟩ := bind_some hF
  refine regS mixed hn hG h [1, 500] (ov [0] (op_fieldAddr_lbm (p := (b1 0)) (n := 1) 0 1 Tryz.underlying53 rfl Tryz.sizeOf9 (by decide) q0 rfl) <| ov [500, 2] (op_load_lb1 [one (intVP .u32 a_0.f_Home)] [] 1 Tryz.isAgg9 q0 rfl rfl) <| ov [0] (op_fieldAddr_lbm (p := (b1 0)) (n := 1) 0 0 Tryz.underlying53 rfl Tryz.sizeOf31 (by decide) q0 rfl) <| ov [500, 2] (op_load_lb1 [] [one (strVP a_0.f_Disk)] 1 Tryz.isAgg31 q0 rfl rfl) <| oc [502, 500] [] Tryz.call33 (notes_Read_ok hr3) ⟨q0, qi, q1, trivial⟩ <| ou [1, 500] 3 (op_store_w Tryz.sizeOf63 q0 q1 (cells_agg _)) .nil) fun _ a w h => ?_
  refine wp_ret ?_
  obtain rfl := Option.some.inj hF
  exact ⟨.inl rfl, ret1 h Tryz.results16 (r_cell 0 1 rfl rfl Tryz.isAgg63 Tryz.sizeOf63 rfl) [] [] rfl rfl rfl⟩

def slices_Clone_api_Digest (a_0 : List (List UInt8)) : Option (List (List UInt8)) := (if a_0.length * 32 ≤ 140737488355328 then some a_0 else none)
theorem slices_Clone_api_Digest_ok {a_0 r : List (List UInt8)} (hF : slices_Clone_api_Digest a_0 = some r) : CallOk Tryz.prog KG 18 [(slVP (dC 32) a_0)] [] (fun _ => []) (slVP (dC 32) r) := by
  unfold slices_Clone_api_Digest at hF
  obtain ⟨hv1, hF⟩ := ite_some hF
  obtain rfl := Option.some.inj hF
  refine CallOk.intro 8 Tryz.func18 rfl Tryz.ntmps18 (Nat.le_of_ble_eq_true rfl) ?_
  intro c a w hG hn h
  change SatL c [.slot 0 (slVP (dC 32) a_0)] a w at h
  refine wp_seq ?_
  refine region_do (n := 8) [.slot 2 100000 100000 (fun _ _ => (eqVP (.slice none 0 0)))] [0] [⟨[], [], [1], [], some 2⟩] [0] mixed hn hG h (by kernel_rfl) ?_ ?_
  · exact ⟨⟨rfl, fun β => (GOk.plain (op_assign (opc (ec _))) rfl)⟩, trivial⟩
  clear h
  intro β a w h
  change SatL c [.slot 0 (slVP (dC 32) a_0)] a w at h
  clear β
  show Code.wp Tryz.prog _ _ a w
  refine wp_seq ?_
  refine wp_seq ?_
  refine region_do (n := 8) [.slot 3 100000 100000 (fun _ _ => (slVP (dC 32) a_0)), .slot 4 100000 100000 (fun _ _ => (nilqVP a_0))] [0, 1] [⟨[0], [], [1], [], some 3⟩, ⟨[1], [], [2], [0], some 4⟩] [0, 2] mixed hn hG h (by kernel_rfl) ?_ ?_
  · exact ⟨⟨rfl, fun β => (GOk.plain (op_move (opt 0 rfl)) rfl)⟩, ⟨rfl, fun β => (GOk.plain (op_bin (bin_slnil Tryz.underlying27) (opt 0 rfl) (opc (ec _))) rfl)⟩, trivial⟩
  clear h
  intro β a w h
  change SatL c [.slot 0 (slVP (dC 32) a_0), .slot 4 (nilqVP a_0)] a w at h
  clear β
  show Code.wp Tryz.prog _ _ a w
  obtain ⟨b0, hb0, h⟩ := h.nilq 1 rfl
  change SatL c [.slot 0 (slVP (dC 32) a_0), .slot 4 (boolVP b0)] a w at h
  refine cond_L h 1 rfl (fun hb => ?_) (fun hb => ?_)
  · obtain rfl := hb0 hb
    replace h := h.sub [] (by rfl)
    change SatL c [] a w at h
    refine wp_seq ?_
    refine region_do (n := 8) [.slot 2 100000 100000 (fun _ _ => (eqVP (.slice none 0 0)))] [0] [⟨[], [], [0], [], some 2⟩] [0] mixed hn hG h (by kernel_rfl) ?_ ?_
    · exact ⟨⟨rfl, fun β => (GOk.plain (op_assign (opc (ec _))) rfl)⟩, trivial⟩
    clear h
    intro β a w h
    change SatL c [.slot 2 (eqVP (.slice none 0 0))] a w at h
    clear β
    show Code.wp Tryz.prog _ _ a w
    refine wp_ret ?_
    exact ⟨.inl rfl, ret1 h Tryz.results18 (r_nil 0 rfl) [] [] rfl rfl rfl⟩
  · replace h := h.sub [0] (by rfl)
    change SatL c [.slot 0 (slVP (dC 32) a_0)] a w at h
    refine wp_skip ?_
    show Code.wp Tryz.prog _ _ a w
    refine wp_seq ?_
    refine region_do (n := 8) [.slot 5 100000 100000 (fun _ _ => empVP), .slot 6 100000 100000 (fun _ _ => (slVP (dC 32) a_0)), .slot 7 100000 100000 (fun _ _ => (slVP (dC 32) a_0)), .slot 2 100000 100000 (fun _ _ => (slVP (dC 32) a_0))] [0, 1, 2, 3] [⟨[], [], [1], [], some 5⟩, ⟨[0], [], [2], [0], some 6⟩, ⟨[1, 2], [], [3], [0, 1], some 7⟩, ⟨[3], [], [4], [0, 1, 2], some 2⟩] [4] mixed hn hG h (by kernel_rfl) ?_ ?_
    · exact ⟨⟨rfl, fun β => (GOk.plain (op_lit0 Tryz.underlying27 Tryz.sizeOf23 Tryz.zeroValue23) rfl)⟩, ⟨rfl, fun β => (GOk.plain (op_move (opt 0 rfl)) rfl)⟩, ⟨rfl, fun β => (GOk.plain (op_append_emp (i := Tryz.t23) Tryz.underlying27 Tryz.type23 rfl (lens_dC 32) (by decide) rfl (opt 0 rfl) (opt 1 rfl) hv1) rfl)⟩, ⟨rfl, fun β => (GOk.plain (op_assign (opt 0 rfl)) rfl)⟩, trivial⟩
    clear h
    intro β a w h
    change SatL c [.slot 2 (slVP (dC 32) a_0)] a w at h
    clear β
    show Code.wp Tryz.prog _ _ a w
    refine wp_ret ?_
    exact ⟨.inl rfl, ret1 h Tryz.results18 (r_tmp 0 rfl) [] [] rfl rfl rfl⟩
theorem slices_Clone_api_Digest_own {a_0 r : List (List UInt8)} (hF : slices_Clone_api_Digest a_0 = some r) : CallOk Tryz.prog KG 18 [(slVP (dC 32) a_0)] [] (fun v => [own v 23 32 (dC 32) r]) anyVP := by
  unfold slices_Clone_api_Digest at hF
  obtain ⟨hv1, hF⟩ := ite_some hF
  obtain rfl := Option.some.inj hF
  refine CallOk.intro 8 Tryz.func18 rfl Tryz.ntmps18 (Nat.le_of_ble_eq_true rfl) ?_
  intro c a w hG hn h
  change SatL c [.slot 0 (slVP (dC 32) a_0)] a w at h
  have hm : a_0.length ≤ mxl := h.slotp 0 rfl (fun _ _ q => q.1)
  refine wp_seq ?_
  refine region_do (n := 8) [.slot 2 100000 100000 (fun _ _ => (eqVP (.slice none 0 0)))] [0] [⟨[], [], [1], [], some 2⟩] [0] mixed hn hG h (by kernel_rfl) ?_ ?_
  · exact ⟨⟨rfl, fun β => (GOk.plain (op_assign (opc (ec _))) rfl)⟩, trivial⟩
  clear h
  intro β a w h
  change SatL c [.slot 0 (slVP (dC 32) a_0)] a w at h
  clear β
  show Code.wp Tryz.prog _ _ a w
  refine wp_seq ?_
  refine wp_seq ?_
  refine region_do (n := 8) [.slot 3 100000 100000 (fun _ _ => (slVP (dC 32) a_0)), .slot 4 100000 100000 (fun _ _ => (nilqVP a_0))] [0, 1] [⟨[0], [], [1], [], some 3⟩, ⟨[1], [], [2], [0], some 4⟩] [0, 2] mixed hn hG h (by kernel_rfl) ?_ ?_
  · exact ⟨⟨rfl, fun β => (GOk.plain (op_move (opt 0 rfl)) rfl)⟩, ⟨rfl, fun β => (GOk.plain (op_bin (bin_slnil Tryz.underlying27) (opt 0 rfl) (opc (ec _))) rfl)⟩, trivial⟩
  clear h
  intro β a w h
  change SatL c [.slot 0 (slVP (dC 32) a_0), .slot 4 (nilqVP a_0)] a w at h
  clear β
  show Code.wp Tryz.prog _ _ a w
  obtain ⟨b0, hb0, h⟩ := h.nilq 1 rfl
  change SatL c [.slot 0 (slVP (dC 32) a_0), .slot 4 (boolVP b0)] a w at h
  refine cond_L h 1 rfl (fun hb => ?_) (fun hb => ?_)
  · obtain rfl := hb0 hb
    replace h := h.sub [] (by rfl)
    change SatL c [] a w at h
    refine wp_seq ?_
    refine region_do (n := 8) [.slot 2 100000 100000 (fun _ _ => (eqVP (.slice none 0 0)))] [0] [⟨[], [], [0], [], some 2⟩] [0] mixed hn hG h (by kernel_rfl) ?_ ?_
    · exact ⟨⟨rfl, fun β => (GOk.plain (op_assign (opc (ec _))) rfl)⟩, trivial⟩
    clear h
    intro β a w h
    change SatL c [.slot 2 (eqVP (.slice none 0 0))] a w at h
    clear β
    replace h := h.nilown 23 32 (dC 32)
    show Code.wp Tryz.prog _ _ a w
    refine wp_ret ?_
    exact ⟨.inl rfl, ret1v (p := .slice none 0 0) h Tryz.results18 (r_tmp 0 rfl) [1] _ rfl rfl rfl⟩
  · replace h := h.sub [0] (by rfl)
    change SatL c [.slot 0 (slVP (dC 32) a_0)] a w at h
    refine wp_skip ?_
    show Code.wp Tryz.prog _ _ a w
    refine wp_seq ?_
    refine region_do (n := 8) [.slot 5 0 100000 (fun v _ => (eqVP v)), .res 0 100000 (fun v _ => (own v 23 32 (dC 32) ([] : List (List UInt8)))), .slot 6 100000 100000 (fun _ _ => (slVP (dC 32) a_0)), .slot 7 2 100000 (fun v _ => (eqVP v)), .res 2 100000 (fun v _ => (own v 23 32 (dC 32) (([] : List (List UInt8)) ++ a_0))), .slot 2 2 100000 (fun v _ => (eqVP v))] [0, 0, 1, 2, 2, 3] [⟨[], [], [1, 2], [], some 5⟩, ⟨[0], [], [3], [0], some 6⟩, ⟨[1, 3], [2], [4, 5], [0, 1], some 7⟩, ⟨[4], [], [6], [0, 1, 2], some 2⟩] [6, 5] mixed hn hG h (by kernel_rfl) ?_ ?_
    · exact ⟨⟨rfl, fun β => (GOk.plain (op_lit0O Tryz.underlying27 Tryz.sizeOf23 Tryz.zeroValue23) rfl)⟩, ⟨rfl, fun β => (GOk.plain (op_move (opt 0 rfl)) rfl)⟩, ⟨rfl, fun β => (GOk.plain (op_ownAppend (i := Tryz.t23) Tryz.underlying27 Tryz.type23 rfl (lens_dC 32) (by decide) rfl (opt 0 rfl) (opt 1 rfl) ⟨by simpa using hm, by rw [List.length_nil, Nat.zero_add]; exact hv1⟩) rfl)⟩, ⟨rfl, fun β => (GOk.plain (op_assign (V := eqVP (β 2)) (opt 0 rfl)) rfl)⟩, trivial⟩
    clear h
    intro β a w h
    change SatL c [.slot 2 (eqVP (β 2)), .res (own (β 2) 23 32 (dC 32) a_0)] a w at h
    generalize β 2 = p at h
    clear β
    show Code.wp Tryz.prog _ _ a w
    refine wp_ret ?_
    exact ⟨.inl rfl, ret1v (p := p) h Tryz.results18 (r_tmp 0 rfl) [1] _ rfl rfl rfl⟩

def relayer_Fits_1.j1 (x2 : Bool) : Option Bool := some x2
def relayer_Fits_1 (a_0 : S_api_Update) (c_1 : S_api_Replica) : Option Bool := (if (decide (a_0.f_Old = c_1.f_Committed)) = true then relayer_Fits_1.j1 (!decide (a_0.f_New = c_1.f_Committed)) else relayer_Fits_1.j1 false)
theorem relayer_Fits_1_ok {a_0 : S_api_Update} {c_1 : S_api_Replica} {r : Bool} (hF : relayer_Fits_1 a_0 c_1 = some r) : CallOk Tryz.prog KG 54 [(aggVP [one (intVP .u32 a_0.f_Home), bytesCk 32 a_0.f_Old, bytesCk 32 a_0.f_New, one (intVP .i64 a_0.f_Sig.f_Index), one (slVP (dC 32) a_0.f_Sig.f_Parts), one (slVP (dC 32) a_0.f_Sig.f_Others), one (slVP (dC 32) a_0.f_Sig.f_Path)]), (ppVP [one (intVP .u32 c_1.f_Chain), one (intVP .u32 c_1.f_Here), bytesCk 32 c_1.f_Updater, one (slVP (dC 32) c_1.f_Watchers), one (intVP .u64 c_1.f_Window), bytesCk 32 c_1.f_Committed, one (slVP S_api_Timed.ck c_1.f_Roots), one (slVP S_api_State.ck c_1.f_States), one (boolVP c_1.f_Failed), one (boolVP c_1.f_Cut)])] [] (fun _ => []) (boolVP r) := by
  refine CallOk.intro 16 Tryz.func54 rfl Tryz.ntmps54 (Nat.le_of_ble_eq_true rfl) ?_
  intro c a w hG hn h
  unfold relayer_Fits_1 at hF
  change SatL c [.slot 0 (aggVP [one (intVP .u32 a_0.f_Home), bytesCk 32 a_0.f_Old, bytesCk 32 a_0.f_New, one (intVP .i64 a_0.f_Sig.f_Index), one (slVP (dC 32) a_0.f_Sig.f_Parts), one (slVP (dC 32) a_0.f_Sig.f_Others), one (slVP (dC 32) a_0.f_Sig.f_Path)]), .slot 1 (ppVP [one (intVP .u32 c_1.f_Chain), one (intVP .u32 c_1.f_Here), bytesCk 32 c_1.f_Updater, one (slVP (dC 32) c_1.f_Watchers), one (intVP .u64 c_1.f_Window), bytesCk 32 c_1.f_Committed, one (slVP S_api_Timed.ck c_1.f_Roots), one (slVP S_api_State.ck c_1.f_States), one (boolVP c_1.f_Failed), one (boolVP c_1.f_Cut)])] a w at h
  refine regS mixed hn hG h [1, 502, 501] (ob [0] (op_box q0 (cells_agg _)) <| ov [] (op_assign qb) .nil) fun b1 a w h => ?_
  refine wp_seq ?_
  refine wp_cut (fun a w => ∃ (x2 : Bool), relayer_Fits_1.j1 x2 = some r ∧ SatL c [.slot 3 (boolVP x2)] a w) ?_ ?_
  · rcases Bool.eq_false_or_eq_true (decide (a_0.f_Old = c_1.f_Committed)) with hb3 | hb3
    · replace hF := tt_of hb3 hF
      refine reg mixed hn hG h [500] (ov [1] (op_fieldAddr_lbm (p := (b1 0)) (n := 32) 0 1 Tryz.underlying48 rfl Tryz.sizeOf23 (by decide) q0 rfl) <| ov [500, 2] (op_load_lb [one (intVP .u32 a_0.f_Home)] [bytesCk 32 a_0.f_Old] [bytesCk 32 a_0.f_New, one (intVP .i64 a_0.f_Sig.f_Index), one (slVP (dC 32) a_0.f_Sig.f_Parts), one (slVP (dC 32) a_0.f_Sig.f_Others), one (slVP (dC 32) a_0.f_Sig.f_Path)] 1 Tryz.isAgg23 Tryz.sizeOf23 q0 rfl rfl rfl) <| ov [0] (op_fieldAddr_pp (n := 32) [one (intVP .u32 c_1.f_Chain), one (intVP .u32 c_1.f_Here), bytesCk 32 c_1.f_Updater, one (slVP (dC 32) c_1.f_Watchers), one (intVP .u64 c_1.f_Window)] _ Tryz.underlying36 rfl Tryz.sizeOf23 (by decide) q0 rfl) <| ov [500] (op_load_pp [bytesCk 32 c_1.f_Committed] [one (slVP S_api_Timed.ck c_1.f_Roots), one (slVP S_api_State.ck c_1.f_States), one (boolVP c_1.f_Failed), one (boolVP c_1.f_Cut)] Tryz.isAgg23 Tryz.sizeOf23 q0 rfl) <| ov [502, 500] (op_bin (bin_aeql Tryz.underlying23 Tryz.underlying5 Tryz.type5 Tryz.sizeOf5 Tryz.isAgg5 Tryz.eqGuardType23) q0 q1) <| ov [500] (op_move q0) <| oe [500, 1] [] (GOk.on_eq hb3 rfl rfl rfl (op_fieldAddr_lbm (p := (b1 0)) (n := 32) 0 33 Tryz.underlying48 rfl Tryz.sizeOf23 (by decide) q0 rfl)) <| oe [501, 500, 2] [] (GOk.on_eq hb3 rfl rfl rfl (op_load_lb [one (intVP .u32 a_0.f_Home), bytesCk 32 a_0.f_Old] [bytesCk 32 a_0.f_New] [one (intVP .i64 a_0.f_Sig.f_Index), one (slVP (dC 32) a_0.f_Sig.f_Parts), one (slVP (dC 32) a_0.f_Sig.f_Others), one (slVP (dC 32) a_0.f_Sig.f_Path)] 1 Tryz.isAgg23 Tryz.sizeOf23 q0 rfl rfl rfl)) <| oe [502, 0] [] (GOk.on_eq hb3 rfl rfl rfl (op_fieldAddr_pp (n := 32) [one (intVP .u32 c_1.f_Chain), one (intVP .u32 c_1.f_Here), bytesCk 32 c_1.f_Updater, one (slVP (dC 32) c_1.f_Watchers), one (intVP .u64 c_1.f_Window)] _ Tryz.underlying36 rfl Tryz.sizeOf23 (by decide) q0 rfl)) <| oe [503, 500] [] (GOk.on_eq hb3 rfl rfl rfl (op_load_pp [bytesCk 32 c_1.f_Committed] [one (slVP S_api_Timed.ck c_1.f_Roots), one (slVP S_api_State.ck c_1.f_States), one (boolVP c_1.f_Failed), one (boolVP c_1.f_Cut)] Tryz.isAgg23 Tryz.sizeOf23 q0 rfl)) <| oe [504, 502, 500] [] (GOk.on_eq hb3 rfl rfl rfl (op_bin (bin_aneq Tryz.underlying23 Tryz.underlying5 Tryz.type5 Tryz.sizeOf5 Tryz.isAgg5 Tryz.eqGuardType23) q0 q1)) <| ov [505, 500] (op_pick_t hb3 q0 q1) <| ov [500] (op_assign q0) .nil) fun _ a w h => ?_
      exact ⟨!decide (a_0.f_New = c_1.f_Committed), hF, h.sub [0] (by rfl)⟩
    · replace hF := ff_of hb3 hF
      refine reg mixed hn hG h [500] (ov [1] (op_fieldAddr_lbm (p := (b1 0)) (n := 32) 0 1 Tryz.underlying48 rfl Tryz.sizeOf23 (by decide) q0 rfl) <| ov [500, 2] (op_load_lb [one (intVP .u32 a_0.f_Home)] [bytesCk 32 a_0.f_Old] [bytesCk 32 a_0.f_New, one (intVP .i64 a_0.f_Sig.f_Index), one (slVP (dC 32) a_0.f_Sig.f_Parts), one (slVP (dC 32) a_0.f_Sig.f_Others), one (slVP (dC 32) a_0.f_Sig.f_Path)] 1 Tryz.isAgg23 Tryz.sizeOf23 q0 rfl rfl rfl) <| ov [0] (op_fieldAddr_pp (n := 32) [one (intVP .u32 c_1.f_Chain), one (intVP .u32 c_1.f_Here), bytesCk 32 c_1.f_Updater, one (slVP (dC 32) c_1.f_Watchers), one (intVP .u64 c_1.f_Window)] _ Tryz.underlying36 rfl Tryz.sizeOf23 (by decide) q0 rfl) <| ov [500] (op_load_pp [bytesCk 32 c_1.f_Committed] [one (slVP S_api_Timed.ck c_1.f_Roots), one (slVP S_api_State.ck c_1.f_States), one (boolVP c_1.f_Failed), one (boolVP c_1.f_Cut)] Tryz.isAgg23 Tryz.sizeOf23 q0 rfl) <| ov [502, 500] (op_bin (bin_aeql Tryz.underlying23 Tryz.underlying5 Tryz.type5 Tryz.sizeOf5 Tryz.isAgg5 Tryz.eqGuardType23) q0 q1) <| ov [500] (op_move q0) <| oe [500] [] (GOk.off_v (want := true) hb3 rfl rfl rfl rfl) <| oe [501] [] (GOk.off_v (want := true) hb3 rfl rfl rfl rfl) <| oe [502] [] (GOk.off_v (want := true) hb3 rfl rfl rfl rfl) <| oe [503] [] (GOk.off_v (want := true) hb3 rfl rfl rfl rfl) <| oe [504] [] (GOk.off_v (want := true) hb3 rfl rfl rfl rfl) <| ov [505] (op_pick_f hb3 q0 qb) <| ov [500] (op_assign q0) .nil) fun _ a w h => ?_
      exact ⟨false, hF, h.sub [0] (by rfl)⟩
  · clear h hF
    rintro a w ⟨x2, hF, h⟩
    unfold relayer_Fits_1.j1 at hF
    show Code.wp Tryz.prog _ _ a w
    refine wp_ret ?_
    obtain rfl := Option.some.inj hF
    exact ⟨.inl rfl, ret1 h Tryz.results54 (r_tmp 0 rfl) [] [] rfl rfl rfl⟩

def slices_IndexFunc_api_Update.b1 (a_0 : List (S_api_Update)) (a_1 : ((S_api_Update)) → Option (Bool)) (x5 : Int) : Option (Flow Int Int) := (if (decide (x5 < (a_0.length : Int))) = true then (if (0 : Int) ≤ x5 ∧ x5 < a_0.length then ((a_1 (a_0.getD x5.toNat default)).bind fun r13 => (if r13 = true then some (.ret x5) else some (.cont (IntKind.wrap .i64 (x5 + 1))))) else none) else some (.brk x5))
def slices_IndexFunc_api_Update (a_0 : List (S_api_Update)) (a_1 : ((S_api_Update)) → Option (Bool)) : Option Int := ((loopN (fun s : Int => slices_IndexFunc_api_Update.b1 a_0 a_1 s) (((a_0.length : Int) - 0 : Int).toNat + 2) 0).bind fun cr => match cr with | .ret r => some r | .next y19 => some (-1 : Int))
theorem slices_IndexFunc_api_Update_ok {a_0 : List (S_api_Update)} {a_1 : ((S_api_Update)) → Option (Bool)} {r : Int} (hF : slices_IndexFunc_api_Update a_0 a_1 = some r) : CallOk Tryz.prog KG 55 [(slVP S_api_Update.ck a_0), (fnVP Tryz.prog KG (fun x : S_api_Update => [(aggVP [one (intVP .u32 x.f_Home), bytesCk 32 x.f_Old, bytesCk 32 x.f_New, one (intVP .i64 x.f_Sig.f_Index), one (slVP (dC 32) x.f_Sig.f_Parts), one (slVP (dC 32) x.f_Sig.f_Others), one (slVP (dC 32) x.f_Sig.f_Path)])]) (fun r : Bool => (boolVP r)) a_1)] [] (fun _ => []) (intVP .i64 r) := by
  refine CallOk.intro 19 Tryz.func55 rfl Tryz.ntmps55 (Nat.le_of_ble_eq_true rfl) ?_
  intro c a w hG hn h
  unfold slices_IndexFunc_api_Update at hF
  change SatL c [.slot 0 (slVP S_api_Update.ck a_0), .slot 1 (fnVP Tryz.prog KG (fun x : S_api_Update => [(aggVP [one (intVP .u32 x.f_Home), bytesCk 32 x.f_Old, bytesCk 32 x.f_New, one (intVP .i64 x.f_Sig.f_Index), one (slVP (dC 32) x.f_Sig.f_Parts), one (slVP (dC 32) x.f_Sig.f_Others), one (slVP (dC 32) x.f_Sig.f_Path)])]) (fun r : Bool => (boolVP r)) a_1)] a w at h
  refine regS mixed hn hG h [0, 1] (ov [] (op_assign qi) .nil) fun _ a w h => ?_
  refine wp_seq ?_
  refine regS mixed hn hG h [0, 1, 501, 500] (ov [0] (op_move q0) <| ov [500] (op_len_sl Tryz.underlying40 q0) <| ov [] (op_move qi) .nil) fun _ a w h => ?_
  refine wp_block ?_
  obtain ⟨cr15, hl16, hF⟩ := bind_some hF
  refine wp_mono (wp_loopN (R := Int) (S := Int) (fun s a w => SatL c [.slot 0 (slVP S_api_Update.ck a_0), .slot 1 (fnVP Tryz.prog KG (fun x : S_api_Update => [(aggVP [one (intVP .u32 x.f_Home), bytesCk 32 x.f_Old, bytesCk 32 x.f_New, one (intVP .i64 x.f_Sig.f_Index), one (slVP (dC 32) x.f_Sig.f_Parts), one (slVP (dC 32) x.f_Sig.f_Others), one (slVP (dC 32) x.f_Sig.f_Path)])]) (fun r : Bool => (boolVP r)) a_1), .slot 7 (intVP .i64 (a_0.length : Int)), .slot 8 (intVP .i64 s)] a w) (fun res e a w => match res with | .next s => e = .exit 0 ∧ SatL c [] a w | .ret r => e = .ret ∧ RetOk Tryz.prog Tryz.f55 c (intVP .i64 r) (fun _ => []) a w) ?_ _ 0 _ _ _ (h.sub [0, 1, 2, 3] (by rfl)) hl16) ?_
  · clear hl16 hF h
    intro x5 a w o h hF
    change slices_IndexFunc_api_Update.b1 a_0 a_1 x5 = some o at hF
    unfold slices_IndexFunc_api_Update.b1 at hF
    change SatL c [.slot 0 (slVP S_api_Update.ck a_0), .slot 1 (fnVP Tryz.prog KG (fun x : S_api_Update => [(aggVP [one (intVP .u32 x.f_Home), bytesCk 32 x.f_Old, bytesCk 32 x.f_New, one (intVP .i64 x.f_Sig.f_Index), one (slVP (dC 32) x.f_Sig.f_Parts), one (slVP (dC 32) x.f_Sig.f_Others), one (slVP (dC 32) x.f_Sig.f_Path)])]) (fun r : Bool => (boolVP r)) a_1), .slot 7 (intVP .i64 (a_0.length : Int)), .slot 8 (intVP .i64 x5)] a w at h
    refine regS mixed hn hG h [0, 1, 2, 3, 500] (ov [3, 2] (op_bin bin_lss q0 q1) .nil) fun _ a w h => ?_
    refine wp_seq ?_
    refine cnd h hF 4 [0, 1, 2, 3] [0, 1, 2, 3] (fun hb11 hF h => ?_) (fun hb11 hF h => ?_)
    · refine wp_skip ?_
      show Code.wp Tryz.prog _ _ a w
      refine wp_seq ?_
      refine wp_block ?_
      refine regS mixed hn hG h [0, 1, 500, 2, 3] (ov [3] (op_move q0) <| ov [500] (op_assign q0) .nil) fun _ a w h => ?_
      obtain ⟨hv12, hF⟩ := ite_some hF
      obtain ⟨r13, hr13, hF⟩ := bind_some hF
      refine regS mixed hn hG h [0, 1, 2, 3, 4, 500] (ov [1] (op_move q0) <| ov [0] (op_move q0) <| ov [2] (op_move q0) <| ov [501, 500] (op_indexAddr_sl Tryz.underlying40 Tryz.sizeOf48 S_api_Update.lens q0 q1 hv12) <| ov [500] (op_load_pp [one (intVP .u32 ((a_0.getD x5.toNat default).f_Home)), bytesCk 32 ((a_0.getD x5.toNat default).f_Old), bytesCk 32 ((a_0.getD x5.toNat default).f_New), one (intVP .i64 (((a_0.getD x5.toNat default).f_Sig).f_Index)), one (slVP (dC 32) (((a_0.getD x5.toNat default).f_Sig).f_Parts)), one (slVP (dC 32) (((a_0.getD x5.toNat default).f_Sig).f_Others)), one (slVP (dC 32) (((a_0.getD x5.toNat default).f_Sig).f_Path))] [] Tryz.isAgg48 Tryz.sizeOf48 q0 rfl) <| ov [504, 500] (op_callfn (A := (fun x : S_api_Update => [(aggVP [one (intVP .u32 x.f_Home), bytesCk 32 x.f_Old, bytesCk 32 x.f_New, one (intVP .i64 x.f_Sig.f_Index), one (slVP (dC 32) x.f_Sig.f_Parts), one (slVP (dC 32) x.f_Sig.f_Others), one (slVP (dC 32) x.f_Sig.f_Path)])])) (B := (fun r : Bool => (boolVP r))) (g := a_1) (x := (a_0.getD x5.toNat default)) q0 ⟨q1, trivial⟩ hr13) .nil) fun _ a w h => ?_
      refine cnd h hF 5 [2] [0, 1, 3, 4] (fun hb14 hF h => ?_) (fun hb14 hF h => ?_)
      · refine regS mixed hn hG h [500] (ov [0] (op_move q0) <| ov [500] (op_assign q0) .nil) fun _ a w h => ?_
        refine wp_ret ?_
        obtain rfl := Option.some.inj hF
        exact ⟨ret_ne, rfl, ret1 h Tryz.results55 (r_tmp 0 rfl) [] [] rfl rfl rfl⟩
      · refine wp_skip ?_
        show Code.wp Tryz.prog _ _ a w
        refine reg mixed hn hG h [0, 1, 2, 500] (ov [3] (op_bin bin_add q0 qi) <| od [500] 3 (op_move q0) .nil) fun _ a w h => ?_
        obtain rfl := Option.some.inj hF
        exact ⟨rfl, h.sub [0, 1, 2, 3] (by rfl)⟩
    · refine wp_exit ?_
      obtain rfl := Option.some.inj hF
      exact ⟨exit_ne _, rfl, h.sub [] (by rfl)⟩
  · clear hl16
    intro e a w hq
    cases cr15 with
    | ret r17 =>
      obtain ⟨rfl, hq⟩ := hq
      obtain rfl := Option.some.inj hF
      exact ⟨.inl rfl, hq⟩
    | next y19 =>
      obtain ⟨rfl, h⟩ := hq
      change SatL c [] a w at h
      refine inBlock_at ?_
      show Code.wp Tryz.prog _ _ a w
      refine regS mixed hn hG h [500] (ov [] (op_assign qi) .nil) fun _ a w h => ?_
      refine wp_ret ?_
      obtain rfl := Option.some.inj hF
      exact ⟨.inl rfl, ret1 h Tryz.results55 (r_tmp 0 rfl) [] [] rfl rfl rfl⟩

def relayer_Fits.j1 (a_1 : List (S_api_Update)) (a_2 : S_api_Replica) : Option Int := ((slices_IndexFunc_api_Update a_1 (fun x : S_api_Update => relayer_Fits_1 x a_2)).bind fun r7 => some r7)
def relayer_Fits (a_0 : S_relayer_Relayer) (a_1 : List (S_api_Update)) (a_2 : S_api_Replica) : Option Int := ((relayer_Note a_0).bind fun r3 => (if (decide (r3.f_Next < (IntKind.wrap .u64 (a_1.length : Int)))) = true then (if (0 : Int) ≤ r3.f_Next ∧ r3.f_Next ≤ (a_1.length : Int) ∧ (a_1.length : Int) ≤ a_1.length then ((slices_IndexFunc_api_Update ((a_1.take (a_1.length : Int).toNat).drop r3.f_Next.toNat) (fun x : S_api_Update => relayer_Fits_1 x a_2)).bind fun r10 => (if (decide ((0 : Int) ≤ r10)) = true then some (IntKind.wrap .i64 ((IntKind.wrap .i64 r3.f_Next) + r10)) else relayer_Fits.j1 a_1 a_2)) else none) else relayer_Fits.j1 a_1 a_2))
theorem relayer_Fits_ok {a_0 : S_relayer_Relayer} {a_1 : List (S_api_Update)} {a_2 : S_api_Replica} {r : Int} (hF : relayer_Fits a_0 a_1 a_2 = some r) : CallOk Tryz.prog KG 31 [(aggVP [one (intVP .u32 a_0.f_Home), one (strVP a_0.f_Disk)]), (slVP S_api_Update.ck a_1), (aggVP [one (intVP .u32 a_2.f_Chain), one (intVP .u32 a_2.f_Here), bytesCk 32 a_2.f_Updater, one (slVP (dC 32) a_2.f_Watchers), one (intVP .u64 a_2.f_Window), bytesCk 32 a_2.f_Committed, one (slVP S_api_Timed.ck a_2.f_Roots), one (slVP S_api_State.ck a_2.f_States), one (boolVP a_2.f_Failed), one (boolVP a_2.f_Cut)])] [] (fun _ => []) (intVP .i64 r) := by
  refine CallOk.intro 33 Tryz.func31 rfl Tryz.ntmps31 (Nat.le_of_ble_eq_true rfl) ?_
  intro c a w hG hn h
  unfold relayer_Fits at hF
  change SatL c [.slot 0 (aggVP [one (intVP .u32 a_0.f_Home), one (strVP a_0.f_Disk)]), .slot 1 (slVP S_api_Update.ck a_1), .slot 2 (aggVP [one (intVP .u32 a_2.f_Chain), one (intVP .u32 a_2.f_Here), bytesCk 32 a_2.f_Updater, one (slVP (dC 32) a_2.f_Watchers), one (intVP .u64 a_2.f_Window), bytesCk 32 a_2.f_Committed, one (slVP S_api_Timed.ck a_2.f_Roots), one (slVP S_api_State.ck a_2.f_States), one (boolVP a_2.f_Failed), one (boolVP a_2.f_Cut)])] a w at h
  refine regS mixed hn hG h [1, 504, 502, 503, 501] (ob [0] (op_box q0 (cells_agg _)) <| ob [2] (op_box q0 (cells_agg _)) <| ov [] (op_assign qi) .nil) fun b1 a w h => ?_
  replace h := h.publish 4 rfl
  replace h := h.factslot 2 4 rfl rfl
  replace h := h.sub [0, 1, 2, 3] (by rfl)
  change SatL c [.slot 1 (slVP S_api_Update.ck a_1), .slot 3 (lpVP (b1 0) 0), .slot 5 (ppVP [one (intVP .u32 a_2.f_Chain), one (intVP .u32 a_2.f_Here), bytesCk 32 a_2.f_Updater, one (slVP (dC 32) a_2.f_Watchers), one (intVP .u64 a_2.f_Window), bytesCk 32 a_2.f_Committed, one (slVP S_api_Timed.ck a_2.f_Roots), one (slVP S_api_State.ck a_2.f_States), one (boolVP a_2.f_Failed), one (boolVP a_2.f_Cut)]), .res (lb (b1 0) 53 [one (intVP .u32 a_0.f_Home), one (strVP a_0.f_Disk)])] a w at h
  refine regS mixed hn hG h [0, 1, 500, 3] (ov [2] (op_makeFunc_pp (A := (fun x : S_api_Update => [(aggVP [one (intVP .u32 x.f_Home), bytesCk 32 x.f_Old, bytesCk 32 x.f_New, one (intVP .i64 x.f_Sig.f_Index), one (slVP (dC 32) x.f_Sig.f_Parts), one (slVP (dC 32) x.f_Sig.f_Others), one (slVP (dC 32) x.f_Sig.f_Path)])])) (B := (fun r : Bool => (boolVP r))) (g := (fun x : S_api_Update => relayer_Fits_1 x a_2)) (Cs := [(ppVP [one (intVP .u32 a_2.f_Chain), one (intVP .u32 a_2.f_Here), bytesCk 32 a_2.f_Updater, one (slVP (dC 32) a_2.f_Watchers), one (intVP .u64 a_2.f_Window), bytesCk 32 a_2.f_Committed, one (slVP S_api_Timed.ck a_2.f_Roots), one (slVP S_api_State.ck a_2.f_States), one (boolVP a_2.f_Failed), one (boolVP a_2.f_Cut)])]) Tryz.call54 (fun x r h => relayer_Fits_1_ok h) ⟨q0, trivial⟩) <| ov [500] (op_assign q0) .nil) fun _ a w h => ?_
  obtain ⟨r3, hr3, hF⟩ := bind_some hF
  refine regS mixed hn hG h [0, 2, 500] (ov [1, 3] (op_load_w 1 Tryz.isAgg53 Tryz.sizeOf53 q0) <| oc [500] [] Tryz.call16 (relayer_Note_ok hr3) ⟨q0, trivial⟩ <| ov [500] (op_field1 [one (intVP .u8 r3.f_Kind), one (intVP .u32 r3.f_Home)] [bytesCk 32 r3.f_Old, bytesCk 32 r3.f_New, one (intVP .u64 r3.f_Sent)] Tryz.underlying63 rfl Tryz.isAgg32 q0 rfl) <| ov [500] (op_assign q0) .nil) fun _ a w h => ?_
  refine wp_seq ?_
  refine regS mixed hn hG h [0, 1, 2, 500] (ov [2] (op_move q0) <| ov [0] (op_move q0) <| ov [500] (op_len_sl Tryz.underlying40 q0) <| ov [500] (op_convert_int Tryz.underlying3 Tryz.underlying32 q0) <| ov [503, 500] (op_bin bin_lss q0 q1) .nil) fun _ a w h => ?_
  refine wp_cut (fun a w => relayer_Fits.j1 a_1 a_2 = some r ∧ SatL c [.slot 1 (slVP S_api_Update.ck a_1), .slot 7 (fnVP Tryz.prog KG (fun x : S_api_Update => [(aggVP [one (intVP .u32 x.f_Home), bytesCk 32 x.f_Old, bytesCk 32 x.f_New, one (intVP .i64 x.f_Sig.f_Index), one (slVP (dC 32) x.f_Sig.f_Parts), one (slVP (dC 32) x.f_Sig.f_Others), one (slVP (dC 32) x.f_Sig.f_Path)])]) (fun r : Bool => (boolVP r)) (fun x : S_api_Update => relayer_Fits_1 x a_2))] a w) ?_ ?_
  · refine cnd h hF 3 [0, 1, 2] [0, 1] (fun hb8 hF h => ?_) (fun hb8 hF h => ?_)
    · obtain ⟨hv9, hF⟩ := ite_some hF
      obtain ⟨r10, hr10, hF⟩ := bind_some hF
      refine regS mixed hn hG h [0, 1, 2, 500] (ov [0] (op_move q0) <| ov [2] (op_move q0) <| ov [501, 500] (op_slice_sl (a := r3.f_Next) (b := (a_1.length : Int)) Tryz.underlying40 Tryz.sizeOf48 S_api_Update.lens q0 ⟨_, q1⟩ rfl hv9) <| ov [1] (op_move q0) <| oc [501, 500] [] Tryz.call55 (slices_IndexFunc_api_Update_ok hr10) ⟨q0, q1, trivial⟩ <| ov [500] (op_assign q0) .nil) fun _ a w h => ?_
      refine regS mixed hn hG h [0, 1, 2, 3, 500] (ov [3] (op_move q0) <| ov [500] (op_bin bin_geq q0 qi) .nil) fun _ a w h => ?_
      refine cnd h hF 4 [2, 3] [0, 1] (fun hb11 hF h => ?_) (fun hb11 hF h => ?_)
      · refine regS mixed hn hG h [500] (ov [0] (op_move q0) <| ov [500] (op_convert_int Tryz.underlying32 Tryz.underlying3 q0) <| ov [1] (op_move q0) <| ov [501, 500] (op_bin bin_add q0 q1) <| ov [500] (op_assign q0) .nil) fun _ a w h => ?_
        refine wp_ret ?_
        obtain rfl := Option.some.inj hF
        exact ⟨.inl rfl, ret1 h Tryz.results31 (r_tmp 0 rfl) [] [] rfl rfl rfl⟩
      · refine wp_skip ?_
        exact ⟨hF, h.sub [0, 1] (by rfl)⟩
    · refine wp_skip ?_
      exact ⟨hF, h.sub [0, 1] (by rfl)⟩
  · clear h hF
    rintro a w ⟨hF, h⟩
    unfold relayer_Fits.j1 at hF
    show Code.wp Tryz.prog _ _ a w
    obtain ⟨r7, hr7, hF⟩ := bind_some hF
    refine regS mixed hn hG h [500] (ov [0] (op_move q0) <| ov [1] (op_move q0) <| oc [501, 500] [] Tryz.call55 (slices_IndexFunc_api_Update_ok hr7) ⟨q0, q1, trivial⟩ <| ov [500] (op_assign q0) .nil) fun _ a w h => ?_
    refine wp_ret ?_
    obtain rfl := Option.some.inj hF
    exact ⟨.inl rfl, ret1 h Tryz.results31 (r_tmp 0 rfl) [] [] rfl rfl rfl⟩

def relayer_Step.j2 (a_0 : S_relayer_Relayer) (a_1 : List (S_api_Update)) (a_3 : Int) (r4 : Int) (x10 : S_notes_Note) : Option (S_relayer_Relayer × (List (S_api_Update))) := (if (0 : Int) ≤ r4 ∧ r4 < a_1.length then ((notes_Bytes (S_notes_Note.mk x10.f_Kind x10.f_Home (IntKind.wrap .u64 r4) ((a_1.getD r4.toNat default).f_Old) ((a_1.getD r4.toNat default).f_New) (IntKind.wrap .u64 ((if (999999 : Int) < x10.f_Sent then (999999 : Int) else x10.f_Sent) + 1)))).bind fun r12 => (if (decide (a_3 = (1 : Int))) = true then some ((S_relayer_Relayer.mk a_0.f_Home r12), []) else (if (0 : Int) ≤ r4 ∧ r4 < a_1.length then ((slices_Clone_api_Digest (((a_1.getD r4.toNat default).f_Sig).f_Parts)).bind fun r16 => ((slices_Clone_api_Digest (((a_1.getD r4.toNat default).f_Sig).f_Others)).bind fun r17 => ((slices_Clone_api_Digest (((a_1.getD r4.toNat default).f_Sig).f_Path)).bind fun r18 => some ((S_relayer_Relayer.mk a_0.f_Home r12), [(S_api_Update.mk ((a_1.getD r4.toNat default).f_Home) ((a_1.getD r4.toNat default).f_Old) ((a_1.getD r4.toNat default).f_New) (S_api_Sig.mk (((a_1.getD r4.toNat default).f_Sig).f_Index) r16 r17 r18))])))) else none))) else none)
def relayer_Step.j1 (a_0 : S_relayer_Relayer) (a_1 : List (S_api_Update)) (a_3 : Int) (r4 : Int) (x5 : Bool) : Option (S_relayer_Relayer × (List (S_api_Update))) := (if x5 = true then some (a_0, []) else ((relayer_Note a_0).bind fun r7 => (if (0 : Int) ≤ r4 ∧ r4 < a_1.length then (if (!decide (r7.f_New = ((a_1.getD r4.toNat default).f_New))) = true then relayer_Step.j2 a_0 a_1 a_3 r4 (S_notes_Note.mk r7.f_Kind r7.f_Home r7.f_Next r7.f_Old r7.f_New 0) else relayer_Step.j2 a_0 a_1 a_3 r4 r7) else none)))
def relayer_Step (a_0 : S_relayer_Relayer) (a_1 : List (S_api_Update)) (a_2 : S_api_Replica) (a_3 : Int) : Option (S_relayer_Relayer × (List (S_api_Update))) := ((relayer_Fits a_0 a_1 a_2).bind fun r4 => (if a_2.f_Failed = true then relayer_Step.j1 a_0 a_1 a_3 r4 true else (if a_2.f_Cut = true then relayer_Step.j1 a_0 a_1 a_3 r4 true else (if (decide (r4 < (0 : Int))) = true then relayer_Step.j1 a_0 a_1 a_3 r4 true else relayer_Step.j1 a_0 a_1 a_3 r4 (decide (a_3 = (0 : Int)))))))
theorem relayer_Step_ok {a_0 : S_relayer_Relayer} {a_1 : List (S_api_Update)} {a_2 : S_api_Replica} {a_3 : Int} {r : S_relayer_Relayer × (List (S_api_Update))} (hF : relayer_Step a_0 a_1 a_2 a_3 = some r) : CallOk Tryz.prog KG 15 [(aggVP [one (intVP .u32 a_0.f_Home), one (strVP a_0.f_Disk)]), (slVP S_api_Update.ck a_1), (aggVP [one (intVP .u32 a_2.f_Chain), one (intVP .u32 a_2.f_Here), bytesCk 32 a_2.f_Updater, one (slVP (dC 32) a_2.f_Watchers), one (intVP .u64 a_2.f_Window), bytesCk 32 a_2.f_Committed, one (slVP S_api_Timed.ck a_2.f_Roots), one (slVP S_api_State.ck a_2.f_States), one (boolVP a_2.f_Failed), one (boolVP a_2.f_Cut)]), (intVP .i64 a_3)] [] (fun _ => []) (tupVP [(aggVP [one (intVP .u32 r.1.f_Home), one (strVP r.1.f_Disk)]), (slVP S_api_Update.ck r.2)]) := by
  refine CallOk.intro 93 Tryz.func15 rfl Tryz.ntmps15 (Nat.le_of_ble_eq_true rfl) ?_
  intro c a w hG hn h
  unfold relayer_Step at hF
  change SatL c [.slot 0 (aggVP [one (intVP .u32 a_0.f_Home), one (strVP a_0.f_Disk)]), .slot 1 (slVP S_api_Update.ck a_1), .slot 2 (aggVP [one (intVP .u32 a_2.f_Chain), one (intVP .u32 a_2.f_Here), bytesCk 32 a_2.f_Updater, one (slVP (dC 32) a_2.f_Watchers), one (intVP .u64 a_2.f_Window), bytesCk 32 a_2.f_Committed, one (slVP S_api_Timed.ck a_2.f_Roots), one (slVP S_api_State.ck a_2.f_States), one (boolVP a_2.f_Failed), one (boolVP a_2.f_Cut)]), .slot 3 (intVP .i64 a_3)] a w at h
  refine regS mixed hn hG h [1, 3, 506, 504, 502, 505, 503, 501] (ob [0] (op_box q0 (cells_agg _)) <| ob [2] (op_box q0 (cells_agg _)) <| ob [] (op_alloc Tryz.zeroValue53 z53) <| ov [] (op_assign (opc (ec _))) .nil) fun b1 a w h => ?_
  obtain ⟨r4, hr4, hF⟩ := bind_some hF
  refine regS mixed hn hG h [0, 1, 2, 3, 4, 500, 5, 6, 7] (ov [2, 5] (op_load_w 1 Tryz.isAgg53 Tryz.sizeOf53 q0) <| ov [0] (op_move q0) <| ov [3, 6] (op_load_w 1 Tryz.isAgg36 Tryz.sizeOf36 q0) <| oc [502, 501, 500] [] Tryz.call31 (relayer_Fits_ok hr4) ⟨q0, q1, q2, trivial⟩ <| ov [500] (op_assign q0) .nil) fun _ a w h => ?_
  refine wp_seq ?_
  refine wp_seq ?_
  refine wp_cut (fun a w => ∃ (x5 : Bool), relayer_Step.j1 a_0 a_1 a_3 r4 x5 = some r ∧ SatL c [.slot 1 (slVP S_api_Update.ck a_1), .slot 3 (intVP .i64 a_3), .slot 4 (lpVP (b1 0) 0), .slot 8 (lpVP (b1 2) 0), .slot 10 (intVP .i64 r4), .slot 30 (boolVP x5), .res (lb (b1 0) 53 [one (intVP .u32 a_0.f_Home), one (strVP a_0.f_Disk)]), .res (lb (b1 2) 53 [one (intVP .u32 ((S_relayer_Relayer.mk (0 : Int) []).f_Home)), one (strVP ((S_relayer_Relayer.mk (0 : Int) []).f_Disk))])] a w) ?_ ?_
  · rcases Bool.eq_false_or_eq_true a_2.f_Failed with hb20 | hb20
    · replace hF := tt_of hb20 hF
      refine reg mixed hn hG h [0, 1, 2, 4, 5, 500, 6, 8] (ov [3] (op_fieldAddr_lbm (p := (b1 1)) (n := 1) 0 70 Tryz.underlying36 rfl Tryz.sizeOf4 (by decide) q0 rfl) <| ov [500, 7] (op_load_lb1 [one (intVP .u32 a_2.f_Chain), one (intVP .u32 a_2.f_Here), bytesCk 32 a_2.f_Updater, one (slVP (dC 32) a_2.f_Watchers), one (intVP .u64 a_2.f_Window), bytesCk 32 a_2.f_Committed, one (slVP S_api_Timed.ck a_2.f_Roots), one (slVP S_api_State.ck a_2.f_States)] [one (boolVP a_2.f_Cut)] 1 Tryz.isAgg4 q0 rfl rfl) <| ov [500] (op_move q0) <| oe [500] [] (GOk.off_v (want := false) hb20 rfl rfl rfl rfl) <| oe [501] [] (GOk.off_v (want := false) hb20 rfl rfl rfl rfl) <| ov [502] (op_pick_t hb20 q0 qb) <| ov [500] (op_move q0) <| oe [500] [] (GOk.off_v (want := false) rfl rfl rfl rfl rfl) <| oe [501] [] (GOk.off_v (want := false) rfl rfl rfl rfl rfl) <| ov [502] (op_pick_t rfl q0 qb) <| ov [500] (op_move q0) <| oe [500] [] (GOk.off_v (want := false) rfl rfl rfl rfl rfl) <| oe [501] [] (GOk.off_v (want := false) rfl rfl rfl rfl rfl) <| ov [502] (op_pick_t rfl q0 qb) .nil) fun _ a w h => ?_
      exact ⟨true, hF, h.sub [0, 1, 2, 3, 4, 5, 6, 7] (by rfl)⟩
    · replace hF := ff_of hb20 hF
      rcases Bool.eq_false_or_eq_true a_2.f_Cut with hb21 | hb21
      · replace hF := tt_of hb21 hF
        refine reg mixed hn hG h [0, 1, 2, 4, 5, 500, 6, 8] (ov [3] (op_fieldAddr_lbm (p := (b1 1)) (n := 1) 0 70 Tryz.underlying36 rfl Tryz.sizeOf4 (by decide) q0 rfl) <| ov [500, 7] (op_load_lb1 [one (intVP .u32 a_2.f_Chain), one (intVP .u32 a_2.f_Here), bytesCk 32 a_2.f_Updater, one (slVP (dC 32) a_2.f_Watchers), one (intVP .u64 a_2.f_Window), bytesCk 32 a_2.f_Committed, one (slVP S_api_Timed.ck a_2.f_Roots), one (slVP S_api_State.ck a_2.f_States)] [one (boolVP a_2.f_Cut)] 1 Tryz.isAgg4 q0 rfl rfl) <| ov [500] (op_move q0) <| oe [500, 3] [] (GOk.on_eq hb20 rfl rfl rfl (op_fieldAddr_lbm (p := (b1 1)) (n := 1) 0 71 Tryz.underlying36 rfl Tryz.sizeOf4 (by decide) q0 rfl)) <| oe [501, 500, 7] [] (GOk.on_eq hb20 rfl rfl rfl (op_load_lb1 [one (intVP .u32 a_2.f_Chain), one (intVP .u32 a_2.f_Here), bytesCk 32 a_2.f_Updater, one (slVP (dC 32) a_2.f_Watchers), one (intVP .u64 a_2.f_Window), bytesCk 32 a_2.f_Committed, one (slVP S_api_Timed.ck a_2.f_Roots), one (slVP S_api_State.ck a_2.f_States), one (boolVP a_2.f_Failed)] [] 1 Tryz.isAgg4 q0 rfl rfl)) <| ov [502, 500] (op_pick_f hb20 q0 q1) <| ov [500] (op_move q0) <| oe [500] [] (GOk.off_v (want := false) hb21 rfl rfl rfl rfl) <| oe [501] [] (GOk.off_v (want := false) hb21 rfl rfl rfl rfl) <| ov [502] (op_pick_t hb21 q0 qb) <| ov [500] (op_move q0) <| oe [500] [] (GOk.off_v (want := false) rfl rfl rfl rfl rfl) <| oe [501] [] (GOk.off_v (want := false) rfl rfl rfl rfl rfl) <| ov [502] (op_pick_t rfl q0 qb) .nil) fun _ a w h => ?_
        exact ⟨true, hF, h.sub [0, 1, 2, 3, 4, 5, 6, 7] (by rfl)⟩
      · replace hF := ff_of hb21 hF
        rcases Bool.eq_false_or_eq_true (decide (r4 < (0 : Int))) with hb22 | hb22
        · replace hF := tt_of hb22 hF
          refine reg mixed hn hG h [0, 1, 2, 4, 5, 500, 6, 8] (ov [3] (op_fieldAddr_lbm (p := (b1 1)) (n := 1) 0 70 Tryz.underlying36 rfl Tryz.sizeOf4 (by decide) q0 rfl) <| ov [500, 7] (op_load_lb1 [one (intVP .u32 a_2.f_Chain), one (intVP .u32 a_2.f_Here), bytesCk 32 a_2.f_Updater, one (slVP (dC 32) a_2.f_Watchers), one (intVP .u64 a_2.f_Window), bytesCk 32 a_2.f_Committed, one (slVP S_api_Timed.ck a_2.f_Roots), one (slVP S_api_State.ck a_2.f_States)] [one (boolVP a_2.f_Cut)] 1 Tryz.isAgg4 q0 rfl rfl) <| ov [500] (op_move q0) <| oe [500, 3] [] (GOk.on_eq hb20 rfl rfl rfl (op_fieldAddr_lbm (p := (b1 1)) (n := 1) 0 71 Tryz.underlying36 rfl Tryz.sizeOf4 (by decide) q0 rfl)) <| oe [501, 500, 7] [] (GOk.on_eq hb20 rfl rfl rfl (op_load_lb1 [one (intVP .u32 a_2.f_Chain), one (intVP .u32 a_2.f_Here), bytesCk 32 a_2.f_Updater, one (slVP (dC 32) a_2.f_Watchers), one (intVP .u64 a_2.f_Window), bytesCk 32 a_2.f_Committed, one (slVP S_api_Timed.ck a_2.f_Roots), one (slVP S_api_State.ck a_2.f_States), one (boolVP a_2.f_Failed)] [] 1 Tryz.isAgg4 q0 rfl rfl)) <| ov [502, 500] (op_pick_f hb20 q0 q1) <| ov [500] (op_move q0) <| oe [500, 5] [] (GOk.on_eq hb21 rfl rfl rfl (op_move q0)) <| oe [501, 500] [] (GOk.on_eq hb21 rfl rfl rfl (op_bin bin_lss q0 qi)) <| ov [502, 500] (op_pick_f hb21 q0 q1) <| ov [500] (op_move q0) <| oe [500] [] (GOk.off_v (want := false) hb22 rfl rfl rfl rfl) <| oe [501] [] (GOk.off_v (want := false) hb22 rfl rfl rfl rfl) <| ov [502] (op_pick_t hb22 q0 qb) .nil) fun _ a w h => ?_
          exact ⟨true, hF, h.sub [0, 1, 2, 3, 4, 5, 6, 7] (by rfl)⟩
        · replace hF := ff_of hb22 hF
          refine reg mixed hn hG h [0, 1, 2, 4, 5, 500, 6, 8] (ov [3] (op_fieldAddr_lbm (p := (b1 1)) (n := 1) 0 70 Tryz.underlying36 rfl Tryz.sizeOf4 (by decide) q0 rfl) <| ov [500, 7] (op_load_lb1 [one (intVP .u32 a_2.f_Chain), one (intVP .u32 a_2.f_Here), bytesCk 32 a_2.f_Updater, one (slVP (dC 32) a_2.f_Watchers), one (intVP .u64 a_2.f_Window), bytesCk 32 a_2.f_Committed, one (slVP S_api_Timed.ck a_2.f_Roots), one (slVP S_api_State.ck a_2.f_States)] [one (boolVP a_2.f_Cut)] 1 Tryz.isAgg4 q0 rfl rfl) <| ov [500] (op_move q0) <| oe [500, 3] [] (GOk.on_eq hb20 rfl rfl rfl (op_fieldAddr_lbm (p := (b1 1)) (n := 1) 0 71 Tryz.underlying36 rfl Tryz.sizeOf4 (by decide) q0 rfl)) <| oe [501, 500, 7] [] (GOk.on_eq hb20 rfl rfl rfl (op_load_lb1 [one (intVP .u32 a_2.f_Chain), one (intVP .u32 a_2.f_Here), bytesCk 32 a_2.f_Updater, one (slVP (dC 32) a_2.f_Watchers), one (intVP .u64 a_2.f_Window), bytesCk 32 a_2.f_Committed, one (slVP S_api_Timed.ck a_2.f_Roots), one (slVP S_api_State.ck a_2.f_States), one (boolVP a_2.f_Failed)] [] 1 Tryz.isAgg4 q0 rfl rfl)) <| ov [502, 500] (op_pick_f hb20 q0 q1) <| ov [500] (op_move q0) <| oe [500, 5] [] (GOk.on_eq hb21 rfl rfl rfl (op_move q0)) <| oe [501, 500] [] (GOk.on_eq hb21 rfl rfl rfl (op_bin bin_lss q0 qi)) <| ov [502, 500] (op_pick_f hb21 q0 q1) <| ov [500] (op_move q0) <| oe [500, 1] [] (GOk.on_eq hb22 rfl rfl rfl (op_move q0)) <| oe [501, 500] [] (GOk.on_eq hb22 rfl rfl rfl (op_bin bin_eql q0 qi)) <| ov [502, 500] (op_pick_f hb22 q0 q1) .nil) fun _ a w h => ?_
          exact ⟨decide (a_3 = (0 : Int)), hF, h.sub [0, 1, 2, 3, 4, 5, 6, 7] (by rfl)⟩
  · clear h hF
    rintro a w ⟨x5, hF, h⟩
    unfold relayer_Step.j1 at hF
    show Code.wp Tryz.prog _ _ a w
    refine cnd h hF 5 [2, 3, 6, 7] [0, 1, 2, 3, 4, 6, 7] (fun hb6 hF h => ?_) (fun hb6 hF h => ?_)
    · refine regS mixed hn hG h [1, 500, 501] (ov [0, 2] (op_load_w 1 Tryz.isAgg53 Tryz.sizeOf53 q0) <| ou [1, 500] 3 (op_store_w Tryz.sizeOf53 q0 q1 (cells_agg _)) <| ov [] (op_assign (opc (ec _))) .nil) fun _ a w h => ?_
      refine wp_ret ?_
      obtain rfl := Option.some.inj hF
      exact ⟨.inl rfl, retn h (rs := [.cell 8 53, .tmp 9]) (Vs := [(aggVP [one (intVP .u32 a_0.f_Home), one (strVP a_0.f_Disk)]), (slVP S_api_Update.ck [])]) Tryz.results15 (by decide) ⟨(r_cell 0 2 rfl rfl Tryz.isAgg53 Tryz.sizeOf53 rfl), (r_nil 1 rfl), trivial⟩ [] [] rfl rfl rfl⟩
    · refine wp_skip ?_
      show Code.wp Tryz.prog _ _ a w
      obtain ⟨r7, hr7, hF⟩ := bind_some hF
      refine regS mixed hn hG h [0, 1, 2, 3, 4, 502, 5, 6, 500] (ov [2, 5] (op_load_w 1 Tryz.isAgg53 Tryz.sizeOf53 q0) <| oc [500] [] Tryz.call16 (relayer_Note_ok hr7) ⟨q0, trivial⟩ <| ob [] (op_alloc Tryz.zeroValue63 z63) <| og [501, 502] [500] [.res 2 100000 (fun v1_ _ => (lb (v1_) 63 [one (intVP .u8 r7.f_Kind), one (intVP .u32 r7.f_Home), one (intVP .u64 r7.f_Next), bytesCk 32 r7.f_Old, bytesCk 32 r7.f_New, one (intVP .u64 r7.f_Sent)]))] (GOk.plain (op_store_w Tryz.sizeOf63 q0 q1 (cells_agg _)) rfl) .nil) fun b8 a w h => ?_
      refine wp_seq ?_
      obtain ⟨hv9, hF⟩ := ite_some hF
      refine regS mixed hn hG h [0, 1, 2, 3, 4, 5, 500, 6, 7, 8] (ov [5] (op_fieldAddr_lbm (p := (b8 2)) (n := 32) 0 35 Tryz.underlying63 rfl Tryz.sizeOf23 (by decide) q0 rfl) <| ov [500, 8] (op_load_lb [one (intVP .u8 r7.f_Kind), one (intVP .u32 r7.f_Home), one (intVP .u64 r7.f_Next), bytesCk 32 r7.f_Old] [bytesCk 32 r7.f_New] [one (intVP .u64 r7.f_Sent)] 1 Tryz.isAgg23 Tryz.sizeOf23 q0 rfl rfl rfl) <| ov [0] (op_move q0) <| ov [4] (op_move q0) <| ov [501, 500] (op_indexAddr_sl Tryz.underlying40 Tryz.sizeOf48 S_api_Update.lens q0 q1 hv9) <| ov [500] (op_fieldAddr_pp (n := 32) [one (intVP .u32 ((a_1.getD r4.toNat default).f_Home)), bytesCk 32 ((a_1.getD r4.toNat default).f_Old)] _ Tryz.underlying48 rfl Tryz.sizeOf23 (by decide) q0 rfl) <| ov [500] (op_load_pp [bytesCk 32 ((a_1.getD r4.toNat default).f_New)] [one (intVP .i64 (((a_1.getD r4.toNat default).f_Sig).f_Index)), one (slVP (dC 32) (((a_1.getD r4.toNat default).f_Sig).f_Parts)), one (slVP (dC 32) (((a_1.getD r4.toNat default).f_Sig).f_Others)), one (slVP (dC 32) (((a_1.getD r4.toNat default).f_Sig).f_Path))] Tryz.isAgg23 Tryz.sizeOf23 q0 rfl) <| ov [505, 500] (op_bin (bin_aneq Tryz.underlying23 Tryz.underlying5 Tryz.type5 Tryz.sizeOf5 Tryz.isAgg5 Tryz.eqGuardType23) q0 q1) .nil) fun _ a w h => ?_
      refine wp_cut (fun a w => ∃ (x10 : S_notes_Note), relayer_Step.j2 a_0 a_1 a_3 r4 x10 = some r ∧ SatL c [.slot 1 (slVP S_api_Update.ck a_1), .slot 3 (intVP .i64 a_3), .slot 4 (lpVP (b1 0) 0), .slot 8 (lpVP (b1 2) 0), .slot 10 (intVP .i64 r4), .slot 11 (lpVP (b8 2) 0), .res (lb (b1 0) 53 [one (intVP .u32 a_0.f_Home), one (strVP a_0.f_Disk)]), .res (lb (b1 2) 53 [one (intVP .u32 ((S_relayer_Relayer.mk (0 : Int) []).f_Home)), one (strVP ((S_relayer_Relayer.mk (0 : Int) []).f_Disk))]), .res (lb (b8 2) 63 [one (intVP .u8 x10.f_Kind), one (intVP .u32 x10.f_Home), one (intVP .u64 x10.f_Next), bytesCk 32 x10.f_Old, bytesCk 32 x10.f_New, one (intVP .u64 x10.f_Sent)])] a w) ?_ ?_
      · refine cnd h hF 6 [0, 1, 2, 3, 4, 5, 7, 8, 9] [0, 1, 2, 3, 4, 5, 7, 8, 9] (fun hb19 hF h => ?_) (fun hb19 hF h => ?_)
        · refine reg mixed hn hG h [0, 1, 2, 3, 4, 5, 6, 7, 500] (ov [5] (op_fieldAddr_lbm (p := (b8 2)) (n := 1) 0 67 Tryz.underlying63 rfl Tryz.sizeOf32 (by decide) q0 rfl) <| ou [500] 8 (op_store_lb [one (intVP .u8 r7.f_Kind), one (intVP .u32 r7.f_Home), one (intVP .u64 r7.f_Next), bytesCk 32 r7.f_Old, bytesCk 32 r7.f_New] [one (intVP .u64 r7.f_Sent)] [] [one (intVP .u64 0)] Tryz.sizeOf32 q0 qi (cells_one (one_int _ _)) rfl rfl rfl) .nil) fun _ a w h => ?_
          exact ⟨(S_notes_Note.mk r7.f_Kind r7.f_Home r7.f_Next r7.f_Old r7.f_New 0), hF, h.sub [0, 1, 2, 3, 4, 5, 6, 7, 8] (by rfl)⟩
        · refine wp_skip ?_
          exact ⟨r7, hF, h.sub [0, 1, 2, 3, 4, 5, 6, 7, 8] (by rfl)⟩
      · clear h hF
        rintro a w ⟨x10, hF, h⟩
        unfold relayer_Step.j2 at hF
        show Code.wp Tryz.prog _ _ a w
        obtain ⟨hv11, hF⟩ := ite_some hF
        refine regS mixed hn hG h [0, 1, 2, 3, 4, 5, 6, 7, 500] (ov [4] (op_move q0) <| ov [500] (op_convert_int Tryz.underlying3 Tryz.underlying32 q0) <| ov [0] (op_move q0) <| ov [4] (op_move q0) <| ov [501, 500] (op_indexAddr_sl Tryz.underlying40 Tryz.sizeOf48 S_api_Update.lens q0 q1 hv11) <| ov [500] (op_fieldAddr_pp (n := 32) [one (intVP .u32 ((a_1.getD r4.toNat default).f_Home))] _ Tryz.underlying48 rfl Tryz.sizeOf23 (by decide) q0 rfl) <| ov [500] (op_load_pp [bytesCk 32 ((a_1.getD r4.toNat default).f_Old)] [bytesCk 32 ((a_1.getD r4.toNat default).f_New), one (intVP .i64 (((a_1.getD r4.toNat default).f_Sig).f_Index)), one (slVP (dC 32) (((a_1.getD r4.toNat default).f_Sig).f_Parts)), one (slVP (dC 32) (((a_1.getD r4.toNat default).f_Sig).f_Others)), one (slVP (dC 32) (((a_1.getD r4.toNat default).f_Sig).f_Path))] Tryz.isAgg23 Tryz.sizeOf23 q0 rfl) <| ov [0] (op_move q0) <| ov [4] (op_move q0) <| ov [501, 500] (op_indexAddr_sl Tryz.underlying40 Tryz.sizeOf48 S_api_Update.lens q0 q1 hv11) <| ov [500] (op_fieldAddr_pp (n := 32) [one (intVP .u32 ((a_1.getD r4.toNat default).f_Home)), bytesCk 32 ((a_1.getD r4.toNat default).f_Old)] _ Tryz.underlying48 rfl Tryz.sizeOf23 (by decide) q0 rfl) <| ov [500] (op_load_pp [bytesCk 32 ((a_1.getD r4.toNat default).f_New)] [one (intVP .i64 (((a_1.getD r4.toNat default).f_Sig).f_Index)), one (slVP (dC 32) (((a_1.getD r4.toNat default).f_Sig).f_Parts)), one (slVP (dC 32) (((a_1.getD r4.toNat default).f_Sig).f_Others)), one (slVP (dC 32) (((a_1.getD r4.toNat default).f_Sig).f_Path))] Tryz.isAgg23 Tryz.sizeOf23 q0 rfl) <| ov [5] (op_fieldAddr_lbm (p := (b8 2)) (n := 1) 0 67 Tryz.underlying63 rfl Tryz.sizeOf32 (by decide) q0 rfl) <| ov [500, 8] (op_load_lb1 [one (intVP .u8 x10.f_Kind), one (intVP .u32 x10.f_Home), one (intVP .u64 x10.f_Next), bytesCk 32 x10.f_Old, bytesCk 32 x10.f_New] [] 1 Tryz.isAgg32 q0 rfl rfl) <| ov [500] (op_min q0 qi) <| ov [500] (op_bin bin_add q0 qi) <| ov [5] (op_fieldAddr_lbm (p := (b8 2)) (n := 1) 0 2 Tryz.underlying63 rfl Tryz.sizeOf32 (by decide) q0 rfl) <| ou [500, 515] 8 (op_store_lb [one (intVP .u8 x10.f_Kind), one (intVP .u32 x10.f_Home)] [one (intVP .u64 x10.f_Next)] [bytesCk 32 x10.f_Old, bytesCk 32 x10.f_New, one (intVP .u64 x10.f_Sent)] [one (intVP .u64 (IntKind.wrap .u64 r4))] Tryz.sizeOf32 q0 q1 (cells_one (one_int _ _)) rfl rfl rfl) <| ov [5] (op_fieldAddr_lbm (p := (b8 2)) (n := 32) 0 3 Tryz.underlying63 rfl Tryz.sizeOf23 (by decide) q0 rfl) <| ou [500, 512] 501 (op_store_lb [one (intVP .u8 x10.f_Kind), one (intVP .u32 x10.f_Home), one (intVP .u64 (IntKind.wrap .u64 r4))] [bytesCk 32 x10.f_Old] [bytesCk 32 x10.f_New, one (intVP .u64 x10.f_Sent)] [bytesCk 32 ((a_1.getD r4.toNat default).f_Old)] Tryz.sizeOf23 q0 q1 (cells_agg _) rfl rfl rfl) <| ov [5] (op_fieldAddr_lbm (p := (b8 2)) (n := 32) 0 35 Tryz.underlying63 rfl Tryz.sizeOf23 (by decide) q0 rfl) <| ou [500, 509] 501 (op_store_lb [one (intVP .u8 x10.f_Kind), one (intVP .u32 x10.f_Home), one (intVP .u64 (IntKind.wrap .u64 r4)), bytesCk 32 ((a_1.getD r4.toNat default).f_Old)] [bytesCk 32 x10.f_New] [one (intVP .u64 x10.f_Sent)] [bytesCk 32 ((a_1.getD r4.toNat default).f_New)] Tryz.sizeOf23 q0 q1 (cells_agg _) rfl rfl rfl) <| ov [5] (op_fieldAddr_lbm (p := (b8 2)) (n := 1) 0 67 Tryz.underlying63 rfl Tryz.sizeOf32 (by decide) q0 rfl) <| ou [500, 507] 501 (op_store_lb [one (intVP .u8 x10.f_Kind), one (intVP .u32 x10.f_Home), one (intVP .u64 (IntKind.wrap .u64 r4)), bytesCk 32 ((a_1.getD r4.toNat default).f_Old), bytesCk 32 ((a_1.getD r4.toNat default).f_New)] [one (intVP .u64 x10.f_Sent)] [] [one (intVP .u64 (IntKind.wrap .u64 ((if (999999 : Int) < x10.f_Sent then (999999 : Int) else x10.f_Sent) + 1)))] Tryz.sizeOf32 q0 q1 (cells_one (one_int _ _)) rfl rfl rfl) .nil) fun _ a w h => ?_
        obtain ⟨r12, hr12, hF⟩ := bind_some hF
        refine regS mixed hn hG h [0, 1, 2, 3, 4, 500, 7] (ov [5, 8] (op_load_w 1 Tryz.isAgg63 Tryz.sizeOf63 q0) <| oc [500] [] Tryz.call32 (notes_Bytes_ok hr12) ⟨q0, trivial⟩ <| ov [2] (op_fieldAddr_lbm (p := (b1 0)) (n := 1) 0 1 Tryz.underlying53 rfl Tryz.sizeOf9 (by decide) q0 rfl) <| ou [500, 501] 6 (op_store_lb [one (intVP .u32 a_0.f_Home)] [one (strVP a_0.f_Disk)] [] [one (strVP r12)] Tryz.sizeOf9 q0 q1 (cells_one (one_str _)) rfl rfl rfl) .nil) fun _ a w h => ?_
        refine wp_seq ?_
        refine regS mixed hn hG h [0, 2, 3, 4, 500, 5, 6] (ov [1] (op_move q0) <| ov [500] (op_bin bin_eql q0 qi) .nil) fun _ a w h => ?_
        refine cnd h hF 4 [1, 2, 5, 6] [0, 1, 2, 3, 5, 6] (fun hb13 hF h => ?_) (fun hb13 hF h => ?_)
        · refine regS mixed hn hG h [1, 500, 501] (ov [0, 2] (op_load_w 1 Tryz.isAgg53 Tryz.sizeOf53 q0) <| ou [1, 500] 3 (op_store_w Tryz.sizeOf53 q0 q1 (cells_agg _)) <| ov [] (op_assign (opc (ec _))) .nil) fun _ a w h => ?_
          refine wp_ret ?_
          obtain rfl := Option.some.inj hF
          exact ⟨.inl rfl, retn h (rs := [.cell 8 53, .tmp 9]) (Vs := [(aggVP [one (intVP .u32 a_0.f_Home), one (strVP r12)]), (slVP S_api_Update.ck [])]) Tryz.results15 (by decide) ⟨(r_cell 0 2 rfl rfl Tryz.isAgg53 Tryz.sizeOf53 rfl), (r_nil 1 rfl), trivial⟩ [] [] rfl rfl rfl⟩
        · refine wp_skip ?_
          show Code.wp Tryz.prog _ _ a w
          obtain ⟨hv14, hF⟩ := ite_some hF
          refine regS mixed hn hG h [1, 2, 502, 4, 5, 500] (ov [0] (op_move q0) <| ov [3] (op_move q0) <| ov [501, 500] (op_indexAddr_sl Tryz.underlying40 Tryz.sizeOf48 S_api_Update.lens q0 q1 hv14) <| ov [500] (op_load_pp [one (intVP .u32 ((a_1.getD r4.toNat default).f_Home)), bytesCk 32 ((a_1.getD r4.toNat default).f_Old), bytesCk 32 ((a_1.getD r4.toNat default).f_New), one (intVP .i64 (((a_1.getD r4.toNat default).f_Sig).f_Index)), one (slVP (dC 32) (((a_1.getD r4.toNat default).f_Sig).f_Parts)), one (slVP (dC 32) (((a_1.getD r4.toNat default).f_Sig).f_Others)), one (slVP (dC 32) (((a_1.getD r4.toNat default).f_Sig).f_Path))] [] Tryz.isAgg48 Tryz.sizeOf48 q0 rfl) <| ob [] (op_alloc Tryz.zeroValue48 z48) <| og [501, 502] [500] [.res 4 100000 (fun v1_ _ => (lb (v1_) 48 [one (intVP .u32 ((a_1.getD r4.toNat default).f_Home)), bytesCk 32 ((a_1.getD r4.toNat default).f_Old), bytesCk 32 ((a_1.getD r4.toNat default).f_New), one (intVP .i64 (((a_1.getD r4.toNat default).f_Sig).f_Index)), one (slVP (dC 32) (((a_1.getD r4.toNat default).f_Sig).f_Parts)), one (slVP (dC 32) (((a_1.getD r4.toNat default).f_Sig).f_Others)), one (slVP (dC 32) (((a_1.getD r4.toNat default).f_Sig).f_Path))]))] (GOk.plain (op_store_w Tryz.sizeOf48 q0 q1 (cells_agg _)) rfl) .nil) fun b15 a w h => ?_
          obtain ⟨r16, hr16, hF⟩ := bind_some hF
          obtain ⟨r17, hr17, hF⟩ := bind_some hF
          obtain ⟨r18, hr18, hF⟩ := bind_some hF
          refine regS mixed hn hG h [0, 1, 2, 3, 4, 500] (ov [2] (op_fieldAddr_lbm (p := (b15 4)) (n := 4) 0 65 Tryz.underlying48 rfl Tryz.sizeOf46 (by decide) q0 rfl) <| ov [500] (op_fieldAddr_lbm (p := (b15 4)) (n := 1) 65 65 Tryz.underlying46 rfl Tryz.sizeOf3 (by decide) q0 rfl) <| ov [500, 5] (op_load_lb1 [one (intVP .u32 ((a_1.getD r4.toNat default).f_Home)), bytesCk 32 ((a_1.getD r4.toNat default).f_Old), bytesCk 32 ((a_1.getD r4.toNat default).f_New)] [one (slVP (dC 32) (((a_1.getD r4.toNat default).f_Sig).f_Parts)), one (slVP (dC 32) (((a_1.getD r4.toNat default).f_Sig).f_Others)), one (slVP (dC 32) (((a_1.getD r4.toNat default).f_Sig).f_Path))] 1 Tryz.isAgg3 q0 rfl rfl) <| ov [2] (op_fieldAddr_lbm (p := (b15 4)) (n := 4) 0 65 Tryz.underlying48 rfl Tryz.sizeOf46 (by decide) q0 rfl) <| ov [500] (op_fieldAddr_lbm (p := (b15 4)) (n := 1) 65 66 Tryz.underlying46 rfl Tryz.sizeOf27 (by decide) q0 rfl) <| ov [500, 5] (op_load_lb1 [one (intVP .u32 ((a_1.getD r4.toNat default).f_Home)), bytesCk 32 ((a_1.getD r4.toNat default).f_Old), bytesCk 32 ((a_1.getD r4.toNat default).f_New), one (intVP .i64 (((a_1.getD r4.toNat default).f_Sig).f_Index))] [one (slVP (dC 32) (((a_1.getD r4.toNat default).f_Sig).f_Others)), one (slVP (dC 32) (((a_1.getD r4.toNat default).f_Sig).f_Path))] 1 Tryz.isAgg27 q0 rfl rfl) <| oc [500] [] Tryz.call18 (slices_Clone_api_Digest_ok hr16) ⟨q0, trivial⟩ <| ov [2] (op_fieldAddr_lbm (p := (b15 4)) (n := 4) 0 65 Tryz.underlying48 rfl Tryz.sizeOf46 (by decide) q0 rfl) <| ov [500] (op_fieldAddr_lbm (p := (b15 4)) (n := 1) 65 67 Tryz.underlying46 rfl Tryz.sizeOf27 (by decide) q0 rfl) <| ov [500, 5] (op_load_lb1 [one (intVP .u32 ((a_1.getD r4.toNat default).f_Home)), bytesCk 32 ((a_1.getD r4.toNat default).f_Old), bytesCk 32 ((a_1.getD r4.toNat default).f_New), one (intVP .i64 (((a_1.getD r4.toNat default).f_Sig).f_Index)), one (slVP (dC 32) (((a_1.getD r4.toNat default).f_Sig).f_Parts))] [one (slVP (dC 32) (((a_1.getD r4.toNat default).f_Sig).f_Path))] 1 Tryz.isAgg27 q0 rfl rfl) <| oc [500] [] Tryz.call18 (slices_Clone_api_Digest_ok hr17) ⟨q0, trivial⟩ <| ov [2] (op_fieldAddr_lbm (p := (b15 4)) (n := 4) 0 65 Tryz.underlying48 rfl Tryz.sizeOf46 (by decide) q0 rfl) <| ov [500] (op_fieldAddr_lbm (p := (b15 4)) (n := 1) 65 68 Tryz.underlying46 rfl Tryz.sizeOf27 (by decide) q0 rfl) <| ov [500, 5] (op_load_lb1 [one (intVP .u32 ((a_1.getD r4.toNat default).f_Home)), bytesCk 32 ((a_1.getD r4.toNat default).f_Old), bytesCk 32 ((a_1.getD r4.toNat default).f_New), one (intVP .i64 (((a_1.getD r4.toNat default).f_Sig).f_Index)), one (slVP (dC 32) (((a_1.getD r4.toNat default).f_Sig).f_Parts)), one (slVP (dC 32) (((a_1.getD r4.toNat default).f_Sig).f_Others))] [] 1 Tryz.isAgg27 q0 rfl rfl) <| oc [500] [] Tryz.call18 (slices_Clone_api_Digest_ok hr18) ⟨q0, trivial⟩ <| ov [512, 508, 504, 500] (op_build [(0, .tmp 75), (1, .tmp 79), (2, .tmp 83), (3, .tmp 87)] rfl bu46 z46 ⟨[], [one (intVP .i64 (0 : Int))], [one (slVP (dC 32) []), one (slVP (dC 32) []), one (slVP (dC 32) [])], [one (intVP .i64 (((a_1.getD r4.toNat default).f_Sig).f_Index))], _, rfl, rfl, rfl, q0, (cells_one (one_int _ _)), ⟨[one (intVP .i64 (((a_1.getD r4.toNat default).f_Sig).f_Index))], [one (slVP (dC 32) [])], [one (slVP (dC 32) []), one (slVP (dC 32) [])], [one (slVP (dC 32) r16)], _, rfl, rfl, rfl, q1, (cells_one (one_sl _ _)), ⟨[one (intVP .i64 (((a_1.getD r4.toNat default).f_Sig).f_Index)), one (slVP (dC 32) r16)], [one (slVP (dC 32) [])], [one (slVP (dC 32) [])], [one (slVP (dC 32) r17)], _, rfl, rfl, rfl, q2, (cells_one (one_sl _ _)), ⟨[one (intVP .i64 (((a_1.getD r4.toNat default).f_Sig).f_Index)), one (slVP (dC 32) r16), one (slVP (dC 32) r17)], [one (slVP (dC 32) [])], [], [one (slVP (dC 32) r18)], _, rfl, rfl, rfl, q3, (cells_one (one_sl _ _)), rfl⟩⟩⟩⟩) <| ov [2] (op_fieldAddr_lbm (p := (b15 4)) (n := 4) 0 65 Tryz.underlying48 rfl Tryz.sizeOf46 (by decide) q0 rfl) <| ou [500, 501] 5 (op_store_lb [one (intVP .u32 ((a_1.getD r4.toNat default).f_Home)), bytesCk 32 ((a_1.getD r4.toNat default).f_Old), bytesCk 32 ((a_1.getD r4.toNat default).f_New)] [one (intVP .i64 (((a_1.getD r4.toNat default).f_Sig).f_Index)), one (slVP (dC 32) (((a_1.getD r4.toNat default).f_Sig).f_Parts)), one (slVP (dC 32) (((a_1.getD r4.toNat default).f_Sig).f_Others)), one (slVP (dC 32) (((a_1.getD r4.toNat default).f_Sig).f_Path))] [] [one (intVP .i64 (((a_1.getD r4.toNat default).f_Sig).f_Index)), one (slVP (dC 32) r16), one (slVP (dC 32) r17), one (slVP (dC 32) r18)] Tryz.sizeOf46 q0 q1 (cells_agg _) rfl rfl rfl) .nil) fun _ a w h => ?_
          refine regS mixed hn hG h [1, 500, 501] (ov [0, 3] (op_load_w 1 Tryz.isAgg53 Tryz.sizeOf53 q0) <| ov [2, 5] (op_load_w 1 Tryz.isAgg48 Tryz.sizeOf48 q0) <| ov [500] (op_lit (xs := [.tmp 91]) (ys := [(S_api_Update.mk ((a_1.getD r4.toNat default).f_Home) ((a_1.getD r4.toNat default).f_Old) ((a_1.getD r4.toNat default).f_New) (S_api_Sig.mk (((a_1.getD r4.toNat default).f_Sig).f_Index) r16 r17 r18))]) _ rfl Tryz.underlying40 Tryz.sizeOf48 Tryz.zeroValue48 rfl rfl (by decide) (by decide) ⟨⟨_, q0, (cells_agg _)⟩, trivial⟩ S_api_Update.lens) <| ou [1, 502] 4 (op_store_w Tryz.sizeOf53 q0 q1 (cells_agg _)) <| ov [501] (op_assign q0) .nil) fun _ a w h => ?_
          refine wp_ret ?_
          obtain rfl := Option.some.inj hF
          exact ⟨.inl rfl, retn h (rs := [.cell 8 53, .tmp 9]) (Vs := [(aggVP [one (intVP .u32 a_0.f_Home), one (strVP r12)]), (slVP S_api_Update.ck [(S_api_Update.mk ((a_1.getD r4.toNat default).f_Home) ((a_1.getD r4.toNat default).f_Old) ((a_1.getD r4.toNat default).f_New) (S_api_Sig.mk (((a_1.getD r4.toNat default).f_Sig).f_Index) r16 r17 r18))])]) Tryz.results15 (by decide) ⟨(r_cell 0 2 rfl rfl Tryz.isAgg53 Tryz.sizeOf53 rfl), (r_tmp 1 rfl), trivial⟩ [] [] rfl rfl rfl⟩

def law23_awake.j1 (x7 : Bool) : Option Bool := some x7
def law23_awake : Option Bool := ((relayer_New 1).bind fun r1 => ((relayer_Step r1 [] (S_api_Replica.mk (0 : Int) (0 : Int) (List.replicate 32 0) [] (0 : Int) (List.replicate 32 0) [] [] false false) (-1 : Int)).bind fun r2 => ((relayer_New 1).bind fun r3 => ((relayer_Step r3 [(S_api_Update.mk (0 : Int) (List.replicate 32 0) ([u8of 1] ++ List.replicate (32 - 1) 0) (S_api_Sig.mk (0 : Int) [] [] []))] (S_api_Replica.mk (0 : Int) (0 : Int) (List.replicate 32 0) [] (0 : Int) (List.replicate 32 0) [] [] false false) (-1 : Int)).bind fun r4 => (if (decide ((r2.2.length : Int) = (0 : Int))) = true then (if (decide ((r4.2.length : Int) = (1 : Int))) = true then ((relayer_Note r4.1).bind fun r6 => law23_awake.j1 (decide (r6.f_Sent = (1 : Int)))) else law23_awake.j1 false) else law23_awake.j1 false)))))
theorem law23_awake_ok {r : Bool} (hF : law23_awake = some r) : CallOk Tryz.prog KG 4 [] [] (fun _ => []) (boolVP r) := by
  refine CallOk.intro 34 Tryz.func4 rfl Tryz.ntmps4 (Nat.le_of_ble_eq_true rfl) ?_
  intro c a w hG hn h
  unfold law23_awake at hF
  change SatL c [] a w at h
  refine regS mixed hn hG h [] (ov [] (op_assign qb) .nil) fun _ a w h => ?_
  obtain ⟨r1, hr1, hF⟩ := bind_some hF
  obtain ⟨r2, hr2, hF⟩ := bind_some hF
  refine regS mixed hn hG h [500] (oc [] [] Tryz.call11 (relayer_New_ok hr1) ⟨qi, trivial⟩ <| ov [] (op_build [] rfl bu36 z36 rfl) <| oc [501, 500] [] Tryz.call15 (relayer_Step_ok hr2) ⟨q0, nilc_sl, q1, qi, trivial⟩ <| ov [500] (op_move q0) <| ov [500] (op_extract q0 rfl) <| ov [501] (op_extract q0 rfl) <| ob [] (op_alloc Tryz.zeroValue53 z53) <| og [501, 503] [500] [.res 6 100000 (fun v1_ _ => (lb (v1_) 53 [one (intVP .u32 r2.1.f_Home), one (strVP r2.1.f_Disk)]))] (GOk.plain (op_store_w Tryz.sizeOf53 q0 q1 (cells_agg _)) rfl) <| ov [503] (op_assign q0) .nil) fun _ a w h => ?_
  obtain ⟨r3, hr3, hF⟩ := bind_some hF
  obtain ⟨r4, hr4, hF⟩ := bind_some hF
  refine regS mixed hn hG h [0, 503, 500, 501] (oc [] [] Tryz.call11 (relayer_New_ok hr3) ⟨qi, trivial⟩ <| ov [] (op_buildB (xs := [.const (.int .u8 1)]) (ys := [u8of 1]) rfl bu23 ⟨⟨_, qi, (cells_u8 _)⟩, trivial⟩ (by decide) rfl) <| ov [500] (op_build [(2, .tmp 13)] rfl bu48 z48 ⟨[one (intVP .u32 (0 : Int)), bytesCk 32 (List.replicate 32 0)], [bytesCk 32 (List.replicate 32 0)], [one (intVP .i64 ((S_api_Sig.mk (0 : Int) [] [] []).f_Index)), one (slVP (dC 32) ((S_api_Sig.mk (0 : Int) [] [] []).f_Parts)), one (slVP (dC 32) ((S_api_Sig.mk (0 : Int) [] [] []).f_Others)), one (slVP (dC 32) ((S_api_Sig.mk (0 : Int) [] [] []).f_Path))], [bytesCk 32 ([u8of 1] ++ List.replicate (32 - 1) 0)], _, rfl, rfl, rfl, q0, (cells_agg _), rfl⟩) <| ov [500] (op_lit (xs := [.tmp 14]) (ys := [(S_api_Update.mk (0 : Int) (List.replicate 32 0) ([u8of 1] ++ List.replicate (32 - 1) 0) (S_api_Sig.mk (0 : Int) [] [] []))]) _ rfl Tryz.underlying40 Tryz.sizeOf48 Tryz.zeroValue48 rfl rfl (by decide) (by decide) ⟨⟨_, q0, (cells_agg _)⟩, trivial⟩ S_api_Update.lens) <| ov [] (op_build [] rfl bu36 z36 rfl) <| oc [504, 501, 500] [] Tryz.call15 (relayer_Step_ok hr4) ⟨q0, q1, q2, qi, trivial⟩ <| ov [500] (op_move q0) <| ov [500] (op_extract q0 rfl) <| ov [501] (op_extract q0 rfl) <| ob [] (op_alloc Tryz.zeroValue53 z53) <| og [501, 503] [500] [.res 9 100000 (fun v1_ _ => (lb (v1_) 53 [one (intVP .u32 r4.1.f_Home), one (strVP r4.1.f_Disk)]))] (GOk.plain (op_store_w Tryz.sizeOf53 q0 q1 (cells_agg _)) rfl) <| ov [503] (op_assign q0) .nil) fun b5 a w h => ?_
  refine wp_seq ?_
  refine wp_cut (fun a w => ∃ (x7 : Bool), law23_awake.j1 x7 = some r ∧ SatL c [.slot 0 (boolVP x7)] a w) ?_ ?_
  · rcases Bool.eq_false_or_eq_true (decide ((r2.2.length : Int) = (0 : Int))) with hb8 | hb8
    · replace hF := tt_of hb8 hF
      rcases Bool.eq_false_or_eq_true (decide ((r4.2.length : Int) = (1 : Int))) with hb9 | hb9
      · replace hF := tt_of hb9 hF
        obtain ⟨r6, hr6, hF⟩ := bind_some hF
        refine reg mixed hn hG h [500] (ov [0] (op_move q0) <| ov [500] (op_len_sl Tryz.underlying40 q0) <| ov [500] (op_bin bin_eql q0 qi) <| ov [500] (op_move q0) <| oe [500, 2] [] (GOk.on_eq hb8 rfl rfl rfl (op_move q0)) <| oe [501, 500] [] (GOk.on_eq hb8 rfl rfl rfl (op_len_sl Tryz.underlying40 q0)) <| oe [502, 500] [] (GOk.on_eq hb8 rfl rfl rfl (op_bin bin_eql q0 qi)) <| ov [503, 500] (op_pick_t hb8 q0 q1) <| ov [500] (op_move q0) <| oe [500, 1, 3] [] (GOk.on_eq hb9 rfl rfl rfl (op_load_w 1 Tryz.isAgg53 Tryz.sizeOf53 q0)) <| oe [501, 500] [] (GOk.on_eq hb9 rfl rfl rfl (op_call Tryz.call16 (relayer_Note_ok hr6) ⟨q0, trivial⟩)) <| oe [502, 500] [] (GOk.on_eq hb9 rfl rfl rfl (op_field1 [one (intVP .u8 r6.f_Kind), one (intVP .u32 r6.f_Home), one (intVP .u64 r6.f_Next), bytesCk 32 r6.f_Old, bytesCk 32 r6.f_New] [] Tryz.underlying63 rfl Tryz.isAgg32 q0 rfl)) <| oe [503, 500] [] (GOk.on_eq hb9 rfl rfl rfl (op_bin bin_eql q0 qi)) <| ov [504, 500] (op_pick_t hb9 q0 q1) <| ov [500] (op_assign q0) .nil) fun _ a w h => ?_
        exact ⟨decide (r6.f_Sent = (1 : Int)), hF, h.sub [0] (by rfl)⟩
      · replace hF := ff_of hb9 hF
        refine reg mixed hn hG h [500] (ov [0] (op_move q0) <| ov [500] (op_len_sl Tryz.underlying40 q0) <| ov [500] (op_bin bin_eql q0 qi) <| ov [500] (op_move q0) <| oe [500, 2] [] (GOk.on_eq hb8 rfl rfl rfl (op_move q0)) <| oe [501, 500] [] (GOk.on_eq hb8 rfl rfl rfl (op_len_sl Tryz.underlying40 q0)) <| oe [502, 500] [] (GOk.on_eq hb8 rfl rfl rfl (op_bin bin_eql q0 qi)) <| ov [503, 500] (op_pick_t hb8 q0 q1) <| ov [500] (op_move q0) <| oe [500] [] (GOk.off_v (want := true) hb9 rfl rfl rfl rfl) <| oe [501] [] (GOk.off_v (want := true) hb9 rfl rfl rfl rfl) <| oe [502] [] (GOk.off_v (want := true) hb9 rfl rfl rfl rfl) <| oe [503] [] (GOk.off_v (want := true) hb9 rfl rfl rfl rfl) <| ov [504] (op_pick_f hb9 q0 qb) <| ov [500] (op_assign q0) .nil) fun _ a w h => ?_
        exact ⟨false, hF, h.sub [0] (by rfl)⟩
    · replace hF := ff_of hb8 hF
      refine reg mixed hn hG h [500] (ov [0] (op_move q0) <| ov [500] (op_len_sl Tryz.underlying40 q0) <| ov [500] (op_bin bin_eql q0 qi) <| ov [500] (op_move q0) <| oe [500] [] (GOk.off_v (want := true) hb8 rfl rfl rfl rfl) <| oe [501] [] (GOk.off_v (want := true) hb8 rfl rfl rfl rfl) <| oe [502] [] (GOk.off_v (want := true) hb8 rfl rfl rfl rfl) <| ov [503] (op_pick_f hb8 q0 qb) <| ov [500] (op_move q0) <| oe [500] [] (GOk.off_v (want := true) rfl rfl rfl rfl rfl) <| oe [501] [] (GOk.off_v (want := true) rfl rfl rfl rfl rfl) <| oe [502] [] (GOk.off_v (want := true) rfl rfl rfl rfl rfl) <| oe [503] [] (GOk.off_v (want := true) rfl rfl rfl rfl rfl) <| ov [504] (op_pick_f rfl q0 qb) <| ov [500] (op_assign q0) .nil) fun _ a w h => ?_
      exact ⟨false, hF, h.sub [0] (by rfl)⟩
  · clear h hF
    rintro a w ⟨x7, hF, h⟩
    unfold law23_awake.j1 at hF
    show Code.wp Tryz.prog _ _ a w
    refine wp_ret ?_
    obtain rfl := Option.some.inj hF
    exact ⟨.inl rfl, ret1 h Tryz.results4 (r_tmp 0 rfl) [] [] rfl rfl rfl⟩

def lamport_Public (L_0 : Option O_Log) (a_1 : List UInt8) : Option ((List UInt8) × (Option O_Log)) := ((wire_Digest a_1).bind fun r3 => ((digest_Log_Of L_0 2 [r3]).bind fun r4 => some (r4.1, r4.2)))
theorem lamport_Public_ok {p_0 : Value} {L_0 : Option O_Log} {a_1 : List UInt8} {r : (List UInt8) × (Option O_Log)} (hF : lamport_Public L_0 a_1 = some r) : CallOk Tryz.prog KG 34 [(eqVP p_0), (aggVP [bytesCk 32 a_1])] [(Log_e p_0 L_0)] (fun _ => [Log_e p_0 r.2]) (aggVP [bytesCk 32 r.1]) := by
  refine CallOk.intro 10 Tryz.func34 rfl Tryz.ntmps34 (Nat.le_of_ble_eq_true rfl) ?_
  intro c a w hG hn h
  unfold lamport_Public at hF
  change SatL c [.slot 0 (eqVP p_0), .slot 1 (aggVP [bytesCk 32 a_1]), .res (Log_e p_0 L_0)] a w at h
  refine regS mixed hn hG h [0, 503, 501, 2, 502, 500] (ob [1] (op_box q0 (cells_agg _)) <| ob [] (op_alloc Tryz.zeroValue23 z23) .nil) fun b1 a w h => ?_
  obtain ⟨r3, hr3, hF⟩ := bind_some hF
  obtain ⟨r4, hr4, hF⟩ := bind_some hF
  refine regS mixed hn hG h [2, 500, 501] (ov [0] (op_move q0) <| ov [1, 4] (op_load_w 1 Tryz.isAgg23 Tryz.sizeOf23 q0) <| oc [500] [] Tryz.call47 (wire_Digest_ok hr3) ⟨q0, trivial⟩ <| ov [500] (op_lit (xs := [.tmp 7]) (ys := [r3]) _ rfl Tryz.underlying75 Tryz.sizeOf9 Tryz.zeroValue9 rfl rfl (by decide) (by decide) ⟨⟨_, q0, (cells_one (one_str _))⟩, trivial⟩ lens_strC) <| oc [503, 500] [3] Tryz.call45 (digest_Log_Of_ok hr4) ⟨q0, qi, q1, trivial⟩ <| ou [2, 501] 5 (op_store_w Tryz.sizeOf23 q0 q1 (cells_agg _)) .nil) fun _ a w h => ?_
  refine wp_ret ?_
  obtain rfl := Option.some.inj hF
  exact ⟨.inl rfl, ret1 h Tryz.results34 (r_cell 0 1 rfl rfl Tryz.isAgg23 Tryz.sizeOf23 rfl) [2] [(Log_e p_0 r4.2)] rfl rfl rfl⟩

def lamport_Secret (L_0 : Option O_Log) (a_1 : List UInt8) (a_2 : Int) (a_3 : Int) (a_4 : Int) : Option ((List UInt8) × (Option O_Log)) := ((wire_Digest a_1).bind fun r3 => ((wire_Word (IntKind.wrap .u32 a_2)).bind fun r4 => ((wire_Byte (IntKind.wrap .u8 a_3)).bind fun r5 => ((wire_Byte (IntKind.wrap .u8 a_4)).bind fun r6 => ((digest_Log_Of L_0 1 [r3, r4, r5, r6]).bind fun r7 => some (r7.1, r7.2))))))
theorem lamport_Secret_ok {p_0 : Value} {L_0 : Option O_Log} {a_1 : List UInt8} {a_2 : Int} {a_3 : Int} {a_4 : Int} {r : (List UInt8) × (Option O_Log)} (hF : lamport_Secret L_0 a_1 a_2 a_3 a_4 = some r) : CallOk Tryz.prog KG 35 [(eqVP p_0), (aggVP [bytesCk 32 a_1]), (intVP .i64 a_2), (intVP .i64 a_3), (intVP .i64 a_4)] [(Log_e p_0 L_0)] (fun _ => [Log_e p_0 r.2]) (aggVP [bytesCk 32 r.1]) := by
  refine CallOk.intro 25 Tryz.func35 rfl Tryz.ntmps35 (Nat.le_of_ble_eq_true rfl) ?_
  intro c a w hG hn h
  unfold lamport_Secret at hF
  change SatL c [.slot 0 (eqVP p_0), .slot 1 (aggVP [bytesCk 32 a_1]), .slot 2 (intVP .i64 a_2), .slot 3 (intVP .i64 a_3), .slot 4 (intVP .i64 a_4), .res (Log_e p_0 L_0)] a w at h
  refine regS mixed hn hG h [0, 2, 3, 4, 503, 501, 5, 502, 500] (ob [1] (op_box q0 (cells_agg _)) <| ob [] (op_alloc Tryz.zeroValue23 z23) .nil) fun b1 a w h => ?_
  obtain ⟨r3, hr3, hF⟩ := bind_some hF
  obtain ⟨r4, hr4, hF⟩ := bind_some hF
  obtain ⟨r5, hr5, hF⟩ := bind_some hF
  obtain ⟨r6, hr6, hF⟩ := bind_some hF
  obtain ⟨r7, hr7, hF⟩ := bind_some hF
  refine regS mixed hn hG h [5, 500, 501] (ov [0] (op_move q0) <| ov [4, 7] (op_load_w 1 Tryz.isAgg23 Tryz.sizeOf23 q0) <| oc [500] [] Tryz.call47 (wire_Digest_ok hr3) ⟨q0, trivial⟩ <| ov [1] (op_move q0) <| ov [500] (op_convert_int Tryz.underlying3 Tryz.underlying31 q0) <| oc [500] [] Tryz.call46 (wire_Word_ok hr4) ⟨q0, trivial⟩ <| ov [2] (op_move q0) <| ov [500] (op_convert_int Tryz.underlying3 Tryz.underlying5 q0) <| oc [500] [] Tryz.call58 (wire_Byte_ok hr5) ⟨q0, trivial⟩ <| ov [3] (op_move q0) <| ov [500] (op_convert_int Tryz.underlying3 Tryz.underlying5 q0) <| oc [500] [] Tryz.call58 (wire_Byte_ok hr6) ⟨q0, trivial⟩ <| ov [509, 506, 503, 500] (op_lit (xs := [.tmp 13, .tmp 16, .tmp 19, .tmp 22]) (ys := [r3, r4, r5, r6]) _ rfl Tryz.underlying75 Tryz.sizeOf9 Tryz.zeroValue9 rfl rfl (by decide) (by decide) ⟨⟨_, q0, (cells_one (one_str _))⟩, ⟨_, q1, (cells_one (one_str _))⟩, ⟨_, q2, (cells_one (one_str _))⟩, ⟨_, q3, (cells_one (one_str _))⟩, trivial⟩ lens_strC) <| oc [512, 500] [6] Tryz.call45 (digest_Log_Of_ok hr7) ⟨q0, qi, q1, trivial⟩ <| ou [5, 501] 8 (op_store_w Tryz.sizeOf23 q0 q1 (cells_agg _)) .nil) fun _ a w h => ?_
  refine wp_ret ?_
  obtain rfl := Option.some.inj hF
  exact ⟨.inl rfl, ret1 h Tryz.results35 (r_cell 0 1 rfl rfl Tryz.isAgg23 Tryz.sizeOf23 rfl) [2] [(Log_e p_0 r7.2)] rfl rfl rfl⟩

def strings_Builder_Write (L_0 : O_Bld) (a_1 : List (UInt8)) : Option (Int × Value × O_Bld) := (if L_0.f_buf.length + a_1.length ≤ mxl ∧ (L_0.f_buf.length + a_1.length) * 1 ≤ 140737488355328 then some ((a_1.length : Int), Value.nilIface, ⟨L_0.f_buf ++ a_1⟩) else none)
theorem strings_Builder_Write_ok {p_0 : Value} {L_0 : O_Bld} {a_1 : List (UInt8)} {r : Int × Value × O_Bld} (hF : strings_Builder_Write L_0 a_1 = some r) : CallOk Tryz.prog KG 59 [(eqVP p_0), (slVP bC a_1)] [(Bld_e p_0 (some L_0))] (fun _ => [Bld_e p_0 (some r.2.2)]) (tupVP [(intVP .i64 r.1), (eqVP r.2.1)]) := by
  refine CallOk.intro 19 Tryz.func59 rfl Tryz.ntmps59 (Nat.le_of_ble_eq_true rfl) ?_
  intro c a w hG hn h
  unfold strings_Builder_Write at hF
  change SatL c [.slot 0 (eqVP p_0), .slot 1 (slVP bC a_1), .res (Bld_e p_0 (some L_0))] a w at h
  obtain ⟨h_0_1, h⟩ := h.ex 2 rfl
  change SatL c [.slot 0 (eqVP p_0), .slot 1 (slVP bC a_1), .res (Bld_o p_0 h_0_1 (some L_0))] a w at h
  have hp := h.isp 2 rfl (fun Φ f w q => Bld_lp Φ f w q)
  replace h := h.slotc 0 rfl (V' := lpVP p_0 0) (fun _ _ h => eq_lp h hp)
  replace h := h.sep (R := lb p_0 121 [one (selfVP p_0), one (eqVP h_0_1)]) (S := (acc h_0_1 5 1 bC L_0.f_buf)) 2 rfl
  replace h := h.sub [0, 1, 2, 3] (by rfl)
  change SatL c [.slot 0 (lpVP p_0 0), .slot 1 (slVP bC a_1), .res (lb p_0 121 [one (selfVP p_0), one (eqVP h_0_1)]), .res (acc h_0_1 5 1 bC L_0.f_buf)] a w at h
  refine regS mixed hn hG h [0, 1, 2, 3] (ov [] (op_assign qi) <| ov [] (op_assign (opc (ec _))) .nil) fun _ a w h => ?_
  refine regS mixed hn hG h [0, 1, 3, 500] (ov [0] (op_move q0) <| oc [500] [2] Tryz.call78 copyCheck_ok ⟨(lp_eqo 0 rfl), trivial⟩ .nil) fun _ a w h => ?_
  obtain ⟨hv1, hF⟩ := ite_some hF
  refine regS mixed hn hG h [1, 500, 503] (ov [0] (op_move q0) <| ov [0] (op_move q0) <| ov [500] (op_nilCheck q0 (ptr_lp _ _)) <| ov [500] (op_fieldAddr_lbm (p := p_0) (n := 1) 0 1 Tryz.underlying121 rfl Tryz.sizeOf119 (by decide) q0 rfl) <| ov [500, 3] (op_load_lb1 [one (selfVP p_0)] [] 1 Tryz.isAgg119 q0 rfl rfl) <| ov [1] (op_move q0) <| og [501, 500] [2] [.slot 14 6 100000 (fun v1_ _ => (eqVP v1_)), .res 6 100000 (fun v1_ _ => (acc (v1_) 5 1 bC (L_0.f_buf ++ a_1)))] (GOk.plain (op_append (i := Tryz.t5) Tryz.underlying119 Tryz.type5 rfl lens_bC (by decide) rfl q0 q1 hv1) rfl) <| ov [507] (op_nilCheck q0 (ptr_lp _ _)) <| ov [500] (op_fieldAddr_lbm (p := p_0) (n := 1) 0 1 Tryz.underlying121 rfl Tryz.sizeOf119 (by decide) q0 rfl) <| og [500, 503, 502] [3] [.res 6 100000 (fun v1_ _ => (lb p_0 121 [one (selfVP p_0), one (eqVP (v1_))]))] (fun {β} => (GOk.plain (op_store_lb [one (selfVP p_0)] [one (eqVP h_0_1)] [] [one (eqVP ((β 6)))] Tryz.sizeOf119 q0 (opone 1 2 rfl rfl acc_one) (cells_h _) rfl rfl rfl) rfl)) .nil) fun b2 a w h => ?_
  refine regS mixed hn hG h [501, 500, 1, 2] (ov [0] (op_move q0) <| ov [500] (op_len_sl Tryz.underlying119 q0) <| ov [500] (op_assign q0) <| ov [] (op_assign (opc (ec _))) .nil) fun _ a w h => ?_
  refine wp_ret ?_
  replace h := h.unsep 2 3 rfl rfl (by decide)
  replace h := h.conv 2 rfl (R' := Bld_e p_0 (some ⟨L_0.f_buf ++ a_1⟩)) (Bld_packo (v1 := (b2 6)) (o := (some ⟨L_0.f_buf ++ a_1⟩)))
  replace h := h.sub [0, 1, 2] (by rfl)
  change SatL c [.slot 4 (intVP .i64 (a_1.length : Int)), .slot 5 (eqVP Value.nilIface), .res (Bld_e p_0 (some ⟨L_0.f_buf ++ a_1⟩))] a w at h
  obtain rfl := Option.some.inj hF
  exact ⟨.inl rfl, retn h (rs := [.tmp 4, .tmp 5]) (Vs := [(intVP .i64 (a_1.length : Int)), (eqVP Value.nilIface)]) Tryz.results59 (by decide) ⟨(r_tmp 0 rfl), (r_tmp 1 rfl), trivial⟩ [2] [(Bld_e p_0 (some ⟨L_0.f_buf ++ a_1⟩))] rfl rfl rfl⟩

def lamport_pair.b1 (a_1 : List (List UInt8)) (x10 : Int) (x11 : O_Bld) : Option (Flow ((List UInt8) × (Option O_Log)) (Int × O_Bld)) := (if (decide (x10 < (64 : Int))) = true then (if (0 : Int) ≤ x10 ∧ x10 < 64 then ((strings_Builder_Write x11 (((a_1.getD x10.toNat default).take (32 : Int).toNat).drop (0 : Int).toNat)).bind fun r21 => some (.cont (IntKind.wrap .i64 (x10 + 1), r21.2.2))) else none) else some (.brk (x10, x11)))
def lamport_pair (L_0 : Option O_Log) (a_1 : List (List UInt8)) : Option ((List UInt8) × (Option O_Log)) := ((loopN (fun s : Int × O_Bld => lamport_pair.b1 a_1 s.1 s.2) ((64 - 0 : Int).toNat + 2) (0, ⟨[]⟩)).bind fun cr => match cr with | .ret r => some r | .next (y26, y27) => ((strings_Builder_String y27).bind fun r28 => ((digest_Log_Of L_0 3 [r28]).bind fun r29 => some (r29.1, r29.2))))
theorem lamport_pair_ok {p_0 : Value} {L_0 : Option O_Log} {a_1 : List (List UInt8)} {r : (List UInt8) × (Option O_Log)} (hF : lamport_pair L_0 a_1 = some r) : CallOk Tryz.prog KG 36 [(eqVP p_0), (aggVP [arrCk 64 32 (dC 32) (lens_dC 32) a_1])] [(Log_e p_0 L_0)] (fun _ => [Log_e p_0 r.2]) (aggVP [bytesCk 32 r.1]) := by
  refine CallOk.intro 19 Tryz.func36 rfl Tryz.ntmps36 (Nat.le_of_ble_eq_true rfl) ?_
  intro c a w hG hn h
  unfold lamport_pair at hF
  change SatL c [.slot 0 (eqVP p_0), .slot 1 (aggVP [arrCk 64 32 (dC 32) (lens_dC 32) a_1]), .res (Log_e p_0 L_0)] a w at h
  refine regS mixed hn hG h [0, 503, 501, 2, 502, 500] (ob [1] (op_box q0 (cells_agg _)) <| ob [] (op_alloc Tryz.zeroValue23 z23) .nil) fun b1 a w h => ?_
  refine regS mixed hn hG h [0, 1, 2, 501, 3, 4, 5, 500] (ob [] (op_alloc Tryz.zeroValue121 zo121) .nil) fun b3 a w h => ?_
  refine wp_seq ?_
  refine regS mixed hn hG h [0, 2, 3, 501, 500, 4, 6, 7] (ov [1, 5] (op_load_w 1 Tryz.isAgg90 Tryz.sizeOf90 q0 (hn := by simp only [lensC, lensN, one, bytesCk, arrCk, intsCk])) <| ov [] (op_move qi) .nil) fun _ a w h => ?_
  refine wp_block ?_
  replace h := h.conv 7 rfl Bld_new
  replace h := h.slotc 2 rfl (fun _ _ h => lp_eqv h)
  replace h := h.sub [0, 1, 2, 3, 4, 5, 6, 7] (by rfl)
  change SatL c [.slot 0 (eqVP p_0), .slot 4 (lpVP (b1 1) 0), .slot 5 (eqVP (b3 0)), .slot 8 (aggVP [arrCk 64 32 (dC 32) (lens_dC 32) a_1]), .slot 9 (intVP .i64 0), .res (Log_e p_0 L_0), .res (lb (b1 1) 23 [bytesCk 32 (List.replicate 32 0)]), .res (Bld_e (b3 0) (some ⟨[]⟩))] a w at h
  obtain ⟨cr22, hl23, hF⟩ := bind_some hF
  refine wp_mono (wp_loopN (R := (List UInt8) × (Option O_Log)) (S := Int × O_Bld) (fun s a w => SatL c [.slot 0 (eqVP p_0), .slot 4 (lpVP (b1 1) 0), .slot 5 (eqVP (b3 0)), .slot 8 (aggVP [arrCk 64 32 (dC 32) (lens_dC 32) a_1]), .slot 9 (intVP .i64 s.1), .res (Log_e p_0 L_0), .res (lb (b1 1) 23 [bytesCk 32 (List.replicate 32 0)]), .res (Bld_e (b3 0) (some s.2))] a w) (fun res e a w => match res with | .next s => e = .exit 0 ∧ SatL c [.slot 0 (eqVP p_0), .slot 4 (lpVP (b1 1) 0), .slot 5 (eqVP (b3 0)), .res (Log_e p_0 L_0), .res (lb (b1 1) 23 [bytesCk 32 (List.replicate 32 0)]), .res (Bld_e (b3 0) (some s.2))] a w | .ret r => e = .ret ∧ RetOk Tryz.prog Tryz.f36 c (aggVP [bytesCk 32 r.1]) (fun _ => [Log_e p_0 r.2]) a w) ?_ _ (0, ⟨[]⟩) _ _ _ (h.sub [0, 1, 2, 3, 4, 5, 6, 7] (by rfl)) hl23) ?_
  · clear hl23 hF h
    intro s a w o h hF
    obtain ⟨x10, x11⟩ := s
    change lamport_pair.b1 a_1 x10 x11 = some o at hF
    unfold lamport_pair.b1 at hF
    change SatL c [.slot 0 (eqVP p_0), .slot 4 (lpVP (b1 1) 0), .slot 5 (eqVP (b3 0)), .slot 8 (aggVP [arrCk 64 32 (dC 32) (lens_dC 32) a_1]), .slot 9 (intVP .i64 x10), .res (Log_e p_0 L_0), .res (lb (b1 1) 23 [bytesCk 32 (List.replicate 32 0)]), .res (Bld_e (b3 0) (some x11))] a w at h
    refine regS mixed hn hG h [0, 1, 2, 3, 4, 500, 5, 6, 7] (ov [4] (op_bin bin_lss q0 qi) .nil) fun _ a w h => ?_
    refine wp_seq ?_
    refine cnd h hF 5 [0, 1, 2, 3, 4, 6, 7, 8] [0, 1, 2, 3, 4, 6, 7, 8] (fun hb18 hF h => ?_) (fun hb18 hF h => ?_)
    · refine wp_skip ?_
      show Code.wp Tryz.prog _ _ a w
      refine wp_seq ?_
      refine wp_block ?_
      obtain ⟨hv19, hF⟩ := ite_some hF
      refine regS mixed hn hG h [0, 1, 2, 502, 3, 4, 5, 6, 7, 500] (ov [3, 4] (op_index_aggA (c := (dC 32)) Tryz.underlying90 Tryz.sizeOf23 Tryz.isAgg23 q0 q1 hv19) <| ob [] (op_alloc Tryz.zeroValue23 z23) <| og [501, 502] [500] [.res 1 100000 (fun v1_ _ => (lb (v1_) 23 [bytesCk 32 (a_1.getD x10.toNat default)]))] (GOk.plain (op_store_w Tryz.sizeOf23 q0 q1 (cells_agg _)) rfl) .nil) fun b20 a w h => ?_
      replace h := h.publish 9 rfl
      replace h := h.factslot 3 9 rfl rfl
      replace h := h.sub [0, 1, 2, 3, 4, 5, 6, 7, 8] (by rfl)
      change SatL c [.slot 0 (eqVP p_0), .slot 4 (lpVP (b1 1) 0), .slot 5 (eqVP (b3 0)), .slot 7 (ppVP [bytesCk 32 (a_1.getD x10.toNat default)]), .slot 8 (aggVP [arrCk 64 32 (dC 32) (lens_dC 32) a_1]), .slot 9 (intVP .i64 x10), .res (Log_e p_0 L_0), .res (lb (b1 1) 23 [bytesCk 32 (List.replicate 32 0)]), .res (Bld_e (b3 0) (some x11))] a w at h
      obtain ⟨r21, hr21, hF⟩ := bind_some hF
      refine reg mixed hn hG h [0, 1, 2, 4, 5, 6, 7, 500] (ov [3] (op_slice_ppB (a := 0) (b := 32) Tryz.underlying23 Tryz.sizeOf5 q0 rfl rfl (by decide)) <| oc [2, 500] [8] Tryz.call59 (strings_Builder_Write_ok hr21) ⟨q0, q1, trivial⟩ .nil) fun _ a w h => ?_
      show Code.wp Tryz.prog _ _ a w
      refine reg mixed hn hG h [0, 1, 2, 3, 500, 5, 6, 7] (ov [4] (op_bin bin_add q0 qi) <| od [500] 4 (op_move q0) .nil) fun _ a w h => ?_
      obtain rfl := Option.some.inj hF
      exact ⟨rfl, h.sub [0, 1, 2, 3, 4, 5, 6, 7] (by rfl)⟩
    · refine wp_exit ?_
      obtain rfl := Option.some.inj hF
      exact ⟨exit_ne _, rfl, h.sub [0, 1, 2, 5, 6, 7] (by rfl)⟩
  · clear hl23
    intro e a w hq
    cases cr22 with
    | ret r24 =>
      obtain ⟨rfl, hq⟩ := hq
      obtain rfl := Option.some.inj hF
      exact ⟨.inl rfl, hq⟩
    | next s25 =>
      obtain ⟨y26, y27⟩ := s25
      obtain ⟨rfl, h⟩ := hq
      change SatL c [.slot 0 (eqVP p_0), .slot 4 (lpVP (b1 1) 0), .slot 5 (eqVP (b3 0)), .res (Log_e p_0 L_0), .res (lb (b1 1) 23 [bytesCk 32 (List.replicate 32 0)]), .res (Bld_e (b3 0) (some y27))] a w at h
      refine inBlock_at ?_
      show Code.wp Tryz.prog _ _ a w
      obtain ⟨r28, hr28, hF⟩ := bind_some hF
      obtain ⟨r29, hr29, hF⟩ := bind_some hF
      refine regS mixed hn hG h [1, 500, 501] (ov [0] (op_move q0) <| oc [2] [5] Tryz.call60 (strings_Builder_String_ok hr28) ⟨q0, trivial⟩ <| ov [500] (op_lit (xs := [.tmp 16]) (ys := [r28]) _ rfl Tryz.underlying75 Tryz.sizeOf9 Tryz.zeroValue9 rfl rfl (by decide) (by decide) ⟨⟨_, q0, (cells_one (one_str _))⟩, trivial⟩ lens_strC) <| oc [502, 500] [3] Tryz.call45 (digest_Log_Of_ok hr29) ⟨q0, qi, q1, trivial⟩ <| ou [1, 501] 4 (op_store_w Tryz.sizeOf23 q0 q1 (cells_agg _)) .nil) fun _ a w h => ?_
      refine wp_ret ?_
      obtain rfl := Option.some.inj hF
      exact ⟨.inl rfl, ret1 h Tryz.results36 (r_cell 0 1 rfl rfl Tryz.isAgg23 Tryz.sizeOf23 rfl) [2] [(Log_e p_0 r29.2)] rfl rfl rfl⟩

def lamport_Word.b1 (a_1 : List UInt8) (a_2 : Int) (x7 : Int) (x8 : Option O_Log) (x9 : List (List UInt8)) : Option (Flow ((List UInt8) × (Option O_Log)) (Int × (Option O_Log) × (List (List UInt8)))) := (if (decide (x7 < (64 : Int))) = true then ((lamport_Secret x8 a_1 a_2 (IntKind.wrap .i64 (x7.tdiv 2)) (x7.tmod 2)).bind fun r18 => ((lamport_Public r18.2 r18.1).bind fun r19 => (if (0 : Int) ≤ x7 ∧ x7 < 64 then some (.cont (IntKind.wrap .i64 (x7 + 1), r19.2, x9.set x7.toNat r19.1)) else none))) else some (.brk (x7, x8, x9)))
def lamport_Word (L_0 : Option O_Log) (a_1 : List UInt8) (a_2 : Int) : Option ((List UInt8) × (Option O_Log)) := ((loopN (fun s : Int × (Option O_Log) × (List (List UInt8)) => lamport_Word.b1 a_1 a_2 s.1 s.2.1 s.2.2) ((64 - 0 : Int).toNat + 2) (0, L_0, (List.replicate 64 (List.replicate 32 0)))).bind fun cr => match cr with | .ret r => some r | .next (y25, y26, y27) => ((lamport_pair y26 y27).bind fun r28 => some (r28.1, r28.2)))
theorem lamport_Word_ok {p_0 : Value} {L_0 : Option O_Log} {a_1 : List UInt8} {a_2 : Int} {r : (List UInt8) × (Option O_Log)} (hF : lamport_Word L_0 a_1 a_2 = some r) : CallOk Tryz.prog KG 17 [(eqVP p_0), (aggVP [bytesCk 32 a_1]), (intVP .i64 a_2)] [(Log_e p_0 L_0)] (fun _ => [Log_e p_0 r.2]) (aggVP [bytesCk 32 r.1]) := by
  refine CallOk.intro 28 Tryz.func17 rfl Tryz.ntmps17 (Nat.le_of_ble_eq_true rfl) ?_
  intro c a w hG hn h
  unfold lamport_Word at hF
  change SatL c [.slot 0 (eqVP p_0), .slot 1 (aggVP [bytesCk 32 a_1]), .slot 2 (intVP .i64 a_2), .res (Log_e p_0 L_0)] a w at h
  refine regS mixed hn hG h [0, 2, 503, 501, 3, 502, 500] (ob [1] (op_box q0 (cells_agg _)) <| ob [] (op_alloc Tryz.zeroValue23 z23) .nil) fun b1 a w h => ?_
  refine regS mixed hn hG h [0, 1, 2, 3, 501, 4, 5, 6, 500] (ob [] (op_alloc Tryz.zeroValue90 z90) .nil) fun b3 a w h => ?_
  refine wp_seq ?_
  refine regS mixed hn hG h [0, 1, 2, 3, 4, 500, 5, 6, 7, 8] (ov [] (op_move qi) .nil) fun _ a w h => ?_
  refine wp_block ?_
  obtain ⟨cr21, hl22, hF⟩ := bind_some hF
  refine wp_mono (wp_loopN (R := (List UInt8) × (Option O_Log)) (S := Int × (Option O_Log) × (List (List UInt8))) (fun s a w => SatL c [.slot 0 (eqVP p_0), .slot 2 (intVP .i64 a_2), .slot 4 (lpVP (b1 0) 0), .slot 6 (lpVP (b1 1) 0), .slot 7 (lpVP (b3 0) 0), .slot 9 (intVP .i64 s.1), .res (Log_e p_0 s.2.1), .res (lb (b1 0) 23 [bytesCk 32 a_1]), .res (lb (b1 1) 23 [bytesCk 32 (List.replicate 32 0)]), .res (lb (b3 0) 90 [arrCk 64 32 (dC 32) (lens_dC 32) s.2.2])] a w) (fun res e a w => match res with | .next s => e = .exit 0 ∧ SatL c [.slot 0 (eqVP p_0), .slot 6 (lpVP (b1 1) 0), .slot 7 (lpVP (b3 0) 0), .res (Log_e p_0 s.2.1), .res (lb (b1 1) 23 [bytesCk 32 (List.replicate 32 0)]), .res (lb (b3 0) 90 [arrCk 64 32 (dC 32) (lens_dC 32) s.2.2])] a w | .ret r => e = .ret ∧ RetOk Tryz.prog Tryz.f17 c (aggVP [bytesCk 32 r.1]) (fun _ => [Log_e p_0 r.2]) a w) ?_ _ (0, L_0, (List.replicate 64 (List.replicate 32 0))) _ _ _ (h.sub [0, 1, 2, 3, 4, 5, 6, 7, 8, 9] (by rfl)) hl22) ?_
  · clear hl22 hF h
    intro s a w o h hF
    obtain ⟨x7, x8, x9⟩ := s
    change lamport_Word.b1 a_1 a_2 x7 x8 x9 = some o at hF
    unfold lamport_Word.b1 at hF
    change SatL c [.slot 0 (eqVP p_0), .slot 2 (intVP .i64 a_2), .slot 4 (lpVP (b1 0) 0), .slot 6 (lpVP (b1 1) 0), .slot 7 (lpVP (b3 0) 0), .slot 9 (intVP .i64 x7), .res (Log_e p_0 x8), .res (lb (b1 0) 23 [bytesCk 32 a_1]), .res (lb (b1 1) 23 [bytesCk 32 (List.replicate 32 0)]), .res (lb (b3 0) 90 [arrCk 64 32 (dC 32) (lens_dC 32) x9])] a w at h
    refine regS mixed hn hG h [0, 1, 2, 3, 4, 5, 500, 6, 7, 8, 9] (ov [5] (op_bin bin_lss q0 qi) .nil) fun _ a w h => ?_
    refine wp_seq ?_
    refine cnd h hF 6 [0, 1, 2, 3, 4, 5, 7, 8, 9, 10] [0, 1, 2, 3, 4, 5, 7, 8, 9, 10] (fun hb17 hF h => ?_) (fun hb17 hF h => ?_)
    · refine wp_skip ?_
      show Code.wp Tryz.prog _ _ a w
      refine wp_seq ?_
      refine wp_block ?_
      refine regS mixed hn hG h [0, 1, 2, 3, 4, 500, 5, 6, 7, 8, 9] (ov [5] (op_move q0) <| ov [500] (op_assign q0) .nil) fun _ a w h => ?_
      obtain ⟨r18, hr18, hF⟩ := bind_some hF
      obtain ⟨r19, hr19, hF⟩ := bind_some hF
      obtain ⟨hv20, hF⟩ := ite_some hF
      refine reg mixed hn hG h [0, 1, 2, 3, 4, 6, 8, 9, 500, 502] (ov [5] (op_move q0) <| ov [0] (op_move q0) <| ov [0] (op_move q0) <| ov [2, 8] (op_load_w 1 Tryz.isAgg23 Tryz.sizeOf23 q0) <| ov [1] (op_move q0) <| ov [5] (op_move q0) <| ov [500] (op_bin (bin_quo (by decide)) q0 qi) <| ov [5] (op_move q0) <| ov [500] (op_bin (bin_rem (by decide)) q0 qi) <| oc [506, 505, 504, 502, 500] [7] Tryz.call35 (lamport_Secret_ok hr18) ⟨q0, q1, q2, q3, (opt 4 rfl), trivial⟩ <| oc [509, 501] [500] Tryz.call34 (lamport_Public_ok hr19) ⟨q0, q1, trivial⟩ <| ov [4, 512] (op_indexAddr_lb Tryz.underlying90 Tryz.sizeOf23 q0 q1 hv20) <| ou [500, 502] 10 (op_store_lbA (i := x7) [] [] Tryz.sizeOf23 q0 q1 rfl hv20) .nil) fun _ a w h => ?_
      show Code.wp Tryz.prog _ _ a w
      refine reg mixed hn hG h [0, 1, 2, 3, 4, 500, 6, 7, 8, 9] (ov [5] (op_bin bin_add q0 qi) <| od [500] 5 (op_move q0) .nil) fun _ a w h => ?_
      obtain rfl := Option.some.inj hF
      exact ⟨rfl, h.sub [0, 1, 2, 3, 4, 5, 9, 6, 7, 8] (by rfl)⟩
    · refine wp_exit ?_
      obtain rfl := Option.some.inj hF
      exact ⟨exit_ne _, rfl, h.sub [0, 3, 4, 6, 8, 9] (by rfl)⟩
  · clear hl22
    intro e a w hq
    cases cr21 with
    | ret r23 =>
      obtain ⟨rfl, hq⟩ := hq
      obtain rfl := Option.some.inj hF
      exact ⟨.inl rfl, hq⟩
    | next s24 =>
      obtain ⟨y25, y26, y27⟩ := s24
      obtain ⟨rfl, h⟩ := hq
      change SatL c [.slot 0 (eqVP p_0), .slot 6 (lpVP (b1 1) 0), .slot 7 (lpVP (b3 0) 0), .res (Log_e p_0 y26), .res (lb (b1 1) 23 [bytesCk 32 (List.replicate 32 0)]), .res (lb (b3 0) 90 [arrCk 64 32 (dC 32) (lens_dC 32) y27])] a w at h
      refine inBlock_at ?_
      show Code.wp Tryz.prog _ _ a w
      obtain ⟨r28, hr28, hF⟩ := bind_some hF
      refine regS mixed hn hG h [1, 500, 501] (ov [0] (op_move q0) <| ov [2, 5] (op_load_w 1 Tryz.isAgg90 Tryz.sizeOf90 q0 (hn := by simp only [lensC, lensN, one, bytesCk, arrCk, intsCk])) <| oc [501, 500] [3] Tryz.call36 (lamport_pair_ok hr28) ⟨q0, q1, trivial⟩ <| ou [1, 501] 4 (op_store_w Tryz.sizeOf23 q0 q1 (cells_agg _)) .nil) fun _ a w h => ?_
      refine wp_ret ?_
      obtain rfl := Option.some.inj hF
      exact ⟨.inl rfl, ret1 h Tryz.results17 (r_cell 0 1 rfl rfl Tryz.isAgg23 Tryz.sizeOf23 rfl) [2] [(Log_e p_0 r28.2)] rfl rfl rfl⟩
end Go.Proofs.YtklikgigjdgjaaaGreatDoorRRR
