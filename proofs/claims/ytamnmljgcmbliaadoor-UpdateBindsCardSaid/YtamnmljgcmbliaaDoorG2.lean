/- The functions' Lean twins and contracts, printed by this session's own program: part 2. -/
import Derived.Test.YtamnmljgcmbliaaDoorG1
namespace Go.Proofs.YtamnmljgcmbliaaDoor
open Go Go.RowKit Go.Proofs
set_option maxRecDepth 100000
set_option maxHeartbeats 4000000
set_option linter.unusedVariables false
def strings_Builder_String (L_0 : O_Bld) : Option (List UInt8) := (if L_0.f_buf ≠ [] then some L_0.f_buf else none)
theorem strings_Builder_String_ok {p_0 : Value} {L_0 : O_Bld} {r : (List UInt8)} (hF : strings_Builder_String L_0 = some r) : CallOk Tryd.prog KG 88 [(eqVP p_0)] [(Bld_e p_0 (some L_0))] (fun _ => []) (strVP r) := by
  refine CallOk.intro 14 Tryd.func88 rfl Tryd.ntmps88 (Nat.le_of_ble_eq_true rfl) ?_
  intro c a w hG hn h
  unfold strings_Builder_String at hF
  change SatL c [.slot 0 (eqVP p_0), .res (Bld_e p_0 (some L_0))] a w at h
  obtain ⟨h_0_1, h⟩ := h.ex 1 rfl
  change SatL c [.slot 0 (eqVP p_0), .res (Bld_o p_0 h_0_1 (some L_0))] a w at h
  have hp := h.isp 1 rfl (fun Φ f w q => Bld_lp Φ f w q)
  replace h := h.slotc 0 rfl (V' := lpVP p_0 0) (fun _ _ h => eq_lp h hp)
  replace h := h.sep (R := lb p_0 143 [one (selfVP p_0), one (eqVP h_0_1)]) (S := (acc h_0_1 5 1 bC L_0.f_buf)) 1 rfl
  replace h := h.sub [0, 1, 2] (by rfl)
  change SatL c [.slot 0 (lpVP p_0 0), .res (lb p_0 143 [one (selfVP p_0), one (eqVP h_0_1)]), .res (acc h_0_1 5 1 bC L_0.f_buf)] a w at h
  refine regS mixed hn hG h [0, 1, 2] (ov [] (op_assign (opc (sc _ (by decide)))) .nil) fun _ a w h => ?_
  obtain ⟨hv1, hF⟩ := ite_some hF
  refine regS mixed hn hG h [500, 1] (ov [0] (op_move q0) <| ov [500] (op_nilCheck q0 (ptr_lp _ _)) <| ov [500] (op_fieldAddr_lbm (p := p_0) (n := 1) 0 1 Tryd.underlying143 rfl Tryd.sizeOf129 (by decide) q0 rfl) <| ov [500, 1] (op_load_lb1 [one (selfVP p_0)] [] 1 Tryd.isAgg129 q0 rfl rfl) <| ov [500, 2] (op_usd 1 q0 rfl hv1) <| ov [0] (op_move q0) <| ov [500] (op_nilCheck q0 (ptr_lp _ _)) <| ov [500] (op_fieldAddr_lbm (p := p_0) (n := 1) 0 1 Tryd.underlying143 rfl Tryd.sizeOf129 (by decide) q0 rfl) <| ov [500, 1] (op_load_lb1 [one (selfVP p_0)] [] 1 Tryd.isAgg129 q0 rfl rfl) <| ov [500, 2] (op_len_sl Tryd.underlying129 (opacc 0 1 rfl rfl)) <| oe [505, 500] [2] (GOk.plain (op_ustr Tryd.underlying164 (by kernel_rfl) q0 q1 hv1) rfl) <| ov [500] (op_assign q0) .nil) fun _ a w h => ?_
  refine wp_ret ?_
  obtain rfl := Option.some.inj hF
  exact ⟨.inl rfl, ret1 h Tryd.results88 (r_tmp 0 rfl) [] [] rfl rfl rfl⟩

def strings_Builder_WriteByte (L_0 : O_Bld) (a_1 : Int) : Option (Value × O_Bld) := (if L_0.f_buf.length + [u8of a_1].length ≤ mxl ∧ (L_0.f_buf.length + [u8of a_1].length) * 1 ≤ 140737488355328 then some (Value.nilIface, ⟨L_0.f_buf ++ [u8of a_1]⟩) else none)
theorem strings_Builder_WriteByte_ok {p_0 : Value} {L_0 : O_Bld} {a_1 : Int} {r : Value × O_Bld} (hF : strings_Builder_WriteByte L_0 a_1 = some r) : CallOk Tryd.prog KG 93 [(eqVP p_0), (intVP .u8 a_1)] [(Bld_e p_0 (some L_0))] (fun _ => [Bld_e p_0 (some r.2)]) (eqVP r.1) := by
  refine CallOk.intro 17 Tryd.func93 rfl Tryd.ntmps93 (Nat.le_of_ble_eq_true rfl) ?_
  intro c a w hG hn h
  unfold strings_Builder_WriteByte at hF
  change SatL c [.slot 0 (eqVP p_0), .slot 1 (intVP .u8 a_1), .res (Bld_e p_0 (some L_0))] a w at h
  obtain ⟨h_0_1, h⟩ := h.ex 2 rfl
  change SatL c [.slot 0 (eqVP p_0), .slot 1 (intVP .u8 a_1), .res (Bld_o p_0 h_0_1 (some L_0))] a w at h
  have hp := h.isp 2 rfl (fun Φ f w q => Bld_lp Φ f w q)
  replace h := h.slotc 0 rfl (V' := lpVP p_0 0) (fun _ _ h => eq_lp h hp)
  replace h := h.sep (R := lb p_0 143 [one (selfVP p_0), one (eqVP h_0_1)]) (S := (acc h_0_1 5 1 bC L_0.f_buf)) 2 rfl
  replace h := h.sub [0, 1, 2, 3] (by rfl)
  change SatL c [.slot 0 (lpVP p_0 0), .slot 1 (intVP .u8 a_1), .res (lb p_0 143 [one (selfVP p_0), one (eqVP h_0_1)]), .res (acc h_0_1 5 1 bC L_0.f_buf)] a w at h
  refine regS mixed hn hG h [0, 1, 2, 3] (ov [] (op_assign (opc (ec _))) .nil) fun _ a w h => ?_
  refine regS mixed hn hG h [0, 1, 3, 500] (ov [0] (op_move q0) <| oc [500] [2] Tryd.call100 copyCheck_ok ⟨(lp_eqo 0 rfl), trivial⟩ .nil) fun _ a w h => ?_
  obtain ⟨hv1, hF⟩ := ite_some hF
  refine regS mixed hn hG h [500, 503] (ov [0] (op_move q0) <| ov [0] (op_move q0) <| ov [500] (op_nilCheck q0 (ptr_lp _ _)) <| ov [500] (op_fieldAddr_lbm (p := p_0) (n := 1) 0 1 Tryd.underlying143 rfl Tryd.sizeOf129 (by decide) q0 rfl) <| ov [500, 3] (op_load_lb1 [one (selfVP p_0)] [] 1 Tryd.isAgg129 q0 rfl rfl) <| ov [1] (op_move q0) <| ov [500] (op_lit (xs := [.tmp 12]) (ys := [u8of a_1]) _ rfl Tryd.underlying129 Tryd.sizeOf5 Tryd.zeroValue5 rfl rfl (by decide) (by decide) ⟨⟨_, q0, (cells_u8 _)⟩, trivial⟩ lens_bC) <| og [502, 500] [2] [.slot 14 7 100000 (fun v1_ _ => (eqVP v1_)), .res 7 100000 (fun v1_ _ => (acc (v1_) 5 1 bC (L_0.f_buf ++ [u8of a_1])))] (GOk.plain (op_append (i := Tryd.t5) Tryd.underlying129 Tryd.type5 rfl lens_bC (by decide) rfl q0 q1 hv1) rfl) <| ov [508] (op_nilCheck q0 (ptr_lp _ _)) <| ov [500] (op_fieldAddr_lbm (p := p_0) (n := 1) 0 1 Tryd.underlying143 rfl Tryd.sizeOf129 (by decide) q0 rfl) <| og [500, 503, 502] [3] [.res 7 100000 (fun v1_ _ => (lb p_0 143 [one (selfVP p_0), one (eqVP (v1_))]))] (fun {β} => (GOk.plain (op_store_lb [one (selfVP p_0)] [one (eqVP h_0_1)] [] [one (eqVP ((β 7)))] Tryd.sizeOf129 q0 (opone 1 2 rfl rfl acc_one) (cells_h _) rfl rfl rfl) rfl)) .nil) fun b2 a w h => ?_
  refine regS mixed hn hG h [500, 0, 1] (ov [] (op_assign (opc (ec _))) .nil) fun _ a w h => ?_
  refine wp_ret ?_
  replace h := h.unsep 1 2 rfl rfl (by decide)
  replace h := h.conv 1 rfl (R' := Bld_e p_0 (some ⟨L_0.f_buf ++ [u8of a_1]⟩)) (Bld_packo (v1 := (b2 7)) (o := (some ⟨L_0.f_buf ++ [u8of a_1]⟩)))
  replace h := h.sub [0, 1] (by rfl)
  change SatL c [.slot 4 (eqVP Value.nilIface), .res (Bld_e p_0 (some ⟨L_0.f_buf ++ [u8of a_1]⟩))] a w at h
  obtain rfl := Option.some.inj hF
  exact ⟨.inl rfl, ret1 h Tryd.results93 (r_tmp 0 rfl) [1] [(Bld_e p_0 (some ⟨L_0.f_buf ++ [u8of a_1]⟩))] rfl rfl rfl⟩

def strings_Builder_WriteString (L_0 : O_Bld) (a_1 : List UInt8) : Option (Int × Value × O_Bld) := (if L_0.f_buf.length + a_1.length ≤ mxl ∧ (L_0.f_buf.length + a_1.length) * 1 ≤ 140737488355328 then some ((a_1.length : Int), Value.nilIface, ⟨L_0.f_buf ++ a_1⟩) else none)
theorem strings_Builder_WriteString_ok {p_0 : Value} {L_0 : O_Bld} {a_1 : List UInt8} {r : Int × Value × O_Bld} (hF : strings_Builder_WriteString L_0 a_1 = some r) : CallOk Tryd.prog KG 94 [(eqVP p_0), (strVP a_1)] [(Bld_e p_0 (some L_0))] (fun _ => [Bld_e p_0 (some r.2.2)]) (tupVP [(intVP .i64 r.1), (eqVP r.2.1)]) := by
  refine CallOk.intro 19 Tryd.func94 rfl Tryd.ntmps94 (Nat.le_of_ble_eq_true rfl) ?_
  intro c a w hG hn h
  unfold strings_Builder_WriteString at hF
  change SatL c [.slot 0 (eqVP p_0), .slot 1 (strVP a_1), .res (Bld_e p_0 (some L_0))] a w at h
  obtain ⟨h_0_1, h⟩ := h.ex 2 rfl
  change SatL c [.slot 0 (eqVP p_0), .slot 1 (strVP a_1), .res (Bld_o p_0 h_0_1 (some L_0))] a w at h
  have hp := h.isp 2 rfl (fun Φ f w q => Bld_lp Φ f w q)
  replace h := h.slotc 0 rfl (V' := lpVP p_0 0) (fun _ _ h => eq_lp h hp)
  replace h := h.sep (R := lb p_0 143 [one (selfVP p_0), one (eqVP h_0_1)]) (S := (acc h_0_1 5 1 bC L_0.f_buf)) 2 rfl
  replace h := h.sub [0, 1, 2, 3] (by rfl)
  change SatL c [.slot 0 (lpVP p_0 0), .slot 1 (strVP a_1), .res (lb p_0 143 [one (selfVP p_0), one (eqVP h_0_1)]), .res (acc h_0_1 5 1 bC L_0.f_buf)] a w at h
  refine regS mixed hn hG h [0, 1, 2, 3] (ov [] (op_assign qi) <| ov [] (op_assign (opc (ec _))) .nil) fun _ a w h => ?_
  refine regS mixed hn hG h [0, 1, 3, 500] (ov [0] (op_move q0) <| oc [500] [2] Tryd.call100 copyCheck_ok ⟨(lp_eqo 0 rfl), trivial⟩ .nil) fun _ a w h => ?_
  obtain ⟨hv1, hF⟩ := ite_some hF
  refine regS mixed hn hG h [1, 500, 503] (ov [0] (op_move q0) <| ov [0] (op_move q0) <| ov [500] (op_nilCheck q0 (ptr_lp _ _)) <| ov [500] (op_fieldAddr_lbm (p := p_0) (n := 1) 0 1 Tryd.underlying143 rfl Tryd.sizeOf129 (by decide) q0 rfl) <| ov [500, 3] (op_load_lb1 [one (selfVP p_0)] [] 1 Tryd.isAgg129 q0 rfl rfl) <| ov [1] (op_move q0) <| og [501, 500] [2] [.slot 14 6 100000 (fun v1_ _ => (eqVP v1_)), .res 6 100000 (fun v1_ _ => (acc (v1_) 5 1 bC (L_0.f_buf ++ a_1)))] (GOk.plain (op_append_str Tryd.underlying129 Tryd.underlying9 Tryd.type5 rfl rfl rfl rfl q0 q1 hv1) rfl) <| ov [507] (op_nilCheck q0 (ptr_lp _ _)) <| ov [500] (op_fieldAddr_lbm (p := p_0) (n := 1) 0 1 Tryd.underlying143 rfl Tryd.sizeOf129 (by decide) q0 rfl) <| og [500, 503, 502] [3] [.res 6 100000 (fun v1_ _ => (lb p_0 143 [one (selfVP p_0), one (eqVP (v1_))]))] (fun {β} => (GOk.plain (op_store_lb [one (selfVP p_0)] [one (eqVP h_0_1)] [] [one (eqVP ((β 6)))] Tryd.sizeOf129 q0 (opone 1 2 rfl rfl acc_one) (cells_h _) rfl rfl rfl) rfl)) .nil) fun b2 a w h => ?_
  refine regS mixed hn hG h [501, 500, 1, 2] (ov [0] (op_move q0) <| ov [500] (op_len_str Tryd.underlying9 q0) <| ov [500] (op_assign q0) <| ov [] (op_assign (opc (ec _))) .nil) fun _ a w h => ?_
  refine wp_ret ?_
  replace h := h.unsep 2 3 rfl rfl (by decide)
  replace h := h.conv 2 rfl (R' := Bld_e p_0 (some ⟨L_0.f_buf ++ a_1⟩)) (Bld_packo (v1 := (b2 6)) (o := (some ⟨L_0.f_buf ++ a_1⟩)))
  replace h := h.sub [0, 1, 2] (by rfl)
  change SatL c [.slot 4 (intVP .i64 (a_1.length : Int)), .slot 5 (eqVP Value.nilIface), .res (Bld_e p_0 (some ⟨L_0.f_buf ++ a_1⟩))] a w at h
  obtain rfl := Option.some.inj hF
  exact ⟨.inl rfl, retn h (rs := [.tmp 4, .tmp 5]) (Vs := [(intVP .i64 (a_1.length : Int)), (eqVP Value.nilIface)]) Tryd.results94 (by decide) ⟨(r_tmp 0 rfl), (r_tmp 1 rfl), trivial⟩ [2] [(Bld_e p_0 (some ⟨L_0.f_buf ++ a_1⟩))] rfl rfl rfl⟩

def wire_big.b1 (a_0 : Int) (a_1 : Int) (x4 : Int) (x5 : List UInt8) : Option (Flow (List UInt8) (Int × (List UInt8))) := (if (decide (x4 < a_1)) = true then (if (0 : Int) ≤ IntKind.wrap .i64 (8 * (IntKind.wrap .i64 ((IntKind.wrap .i64 (a_1 - 1)) - x4))) then (if (0 : Int) ≤ x4 ∧ x4 < 8 then some (.cont (IntKind.wrap .i64 (x4 + 1), x5.set x4.toNat (u8of (IntKind.wrap .u8 (shr .u64 a_0 (IntKind.wrap .i64 (8 * (IntKind.wrap .i64 ((IntKind.wrap .i64 (a_1 - 1)) - x4))))))))) else none) else none) else some (.brk (x4, x5)))
def wire_big (a_0 : Int) (a_1 : Int) : Option (List UInt8) := ((loopN (fun s : Int × (List UInt8) => wire_big.b1 a_0 a_1 s.1 s.2) ((a_1 - 0 : Int).toNat + 2) (0, (List.replicate 8 0))).bind fun cr => match cr with | .ret r => some r | .next (y18, y19) => (if (0 : Int) ≤ 0 ∧ (0 : Int) ≤ a_1 ∧ a_1 ≤ 8 ∧ (0 : Int) < 8 then (if (a_1 : Int).toNat - (0 : Int).toNat ≤ 8 then some (y19.take ((a_1 : Int).toNat - (0 : Int).toNat)) else none) else none))
theorem wire_big_ok {a_0 : Int} {a_1 : Int} {r : (List UInt8)} (hF : wire_big a_0 a_1 = some r) : CallOk Tryd.prog KG 83 [(intVP .u64 a_0), (intVP .i64 a_1)] [] (fun _ => []) (strVP r) := by
  refine CallOk.intro 25 Tryd.func83 rfl Tryd.ntmps83 (Nat.le_of_ble_eq_true rfl) ?_
  intro c a w hG hn h
  unfold wire_big at hF
  change SatL c [.slot 0 (intVP .u64 a_0), .slot 1 (intVP .i64 a_1)] a w at h
  refine regS mixed hn hG h [0, 1] (ov [] (op_assign (opc (sc _ (by decide)))) .nil) fun _ a w h => ?_
  refine regS mixed hn hG h [0, 1, 501, 500] (ob [] (op_alloc Tryd.zeroValue135 z135) .nil) fun b1 a w h => ?_
  refine wp_seq ?_
  refine regS mixed hn hG h [0, 1, 2, 501, 500, 3] (ov [1] (op_move q0) <| ov [] (op_move qi) .nil) fun _ a w h => ?_
  refine wp_block ?_
  obtain ⟨cr14, hl15, hF⟩ := bind_some hF
  refine wp_mono (wp_loopN (R := (List UInt8)) (S := Int × (List UInt8)) (fun s a w => SatL c [.slot 0 (intVP .u64 a_0), .slot 1 (intVP .i64 a_1), .slot 5 (lpVP (b1 0) 0), .slot 7 (intVP .i64 a_1), .slot 8 (intVP .i64 s.1), .res (lb (b1 0) 135 [bytesCk 8 s.2])] a w) (fun res e a w => match res with | .next s => e = .exit 0 ∧ SatL c [.slot 1 (intVP .i64 a_1), .slot 5 (lpVP (b1 0) 0), .res (lb (b1 0) 135 [bytesCk 8 s.2])] a w | .ret r => e = .ret ∧ RetOk Tryd.prog Tryd.f83 c (strVP r) (fun _ => []) a w) ?_ _ (0, (List.replicate 8 0)) _ _ _ (h.sub [0, 1, 2, 3, 4, 5] (by rfl)) hl15) ?_
  · clear hl15 hF h
    intro s a w o h hF
    obtain ⟨x4, x5⟩ := s
    change wire_big.b1 a_0 a_1 x4 x5 = some o at hF
    unfold wire_big.b1 at hF
    change SatL c [.slot 0 (intVP .u64 a_0), .slot 1 (intVP .i64 a_1), .slot 5 (lpVP (b1 0) 0), .slot 7 (intVP .i64 a_1), .slot 8 (intVP .i64 x4), .res (lb (b1 0) 135 [bytesCk 8 x5])] a w at h
    refine regS mixed hn hG h [0, 1, 2, 3, 4, 500, 5] (ov [4, 3] (op_bin bin_lss q0 q1) .nil) fun _ a w h => ?_
    refine wp_seq ?_
    refine cnd h hF 5 [0, 1, 2, 3, 4, 6] [0, 1, 2, 3, 4, 6] (fun hb11 hF h => ?_) (fun hb11 hF h => ?_)
    · refine wp_skip ?_
      show Code.wp Tryd.prog _ _ a w
      refine wp_seq ?_
      refine wp_block ?_
      refine regS mixed hn hG h [0, 1, 2, 500, 3, 4, 5] (ov [4] (op_move q0) <| ov [500] (op_assign q0) .nil) fun _ a w h => ?_
      obtain ⟨hv12, hF⟩ := ite_some hF
      obtain ⟨hv13, hF⟩ := ite_some hF
      refine reg mixed hn hG h [0, 1, 2, 4, 5, 500] (ov [3] (op_move q0) <| ov [0] (op_move q0) <| ov [1] (op_move q0) <| ov [500] (op_bin bin_sub q0 qi) <| ov [3] (op_move q0) <| ov [501, 500] (op_bin bin_sub q0 q1) <| ov [500] (op_bin bin_mul qi q0) <| ov [505, 500] (op_bin (bin_shr hv12) q0 q1) <| ov [500] (op_convert_int Tryd.underlying114 Tryd.underlying5 q0) <| ov [2, 508] (op_indexAddr_lb Tryd.underlying135 Tryd.sizeOf5 q0 q1 hv13) <| ou [500, 501] 6 (op_store_lbB (i := x4) [] [] Tryd.sizeOf5 q0 q1 rfl hv13) .nil) fun _ a w h => ?_
      show Code.wp Tryd.prog _ _ a w
      refine reg mixed hn hG h [0, 1, 2, 3, 500, 5] (ov [4] (op_bin bin_add q0 qi) <| od [500] 4 (op_move q0) .nil) fun _ a w h => ?_
      obtain rfl := Option.some.inj hF
      exact ⟨rfl, h.sub [0, 1, 2, 3, 4, 5] (by rfl)⟩
    · refine wp_exit ?_
      obtain rfl := Option.some.inj hF
      exact ⟨exit_ne _, rfl, h.sub [1, 2, 5] (by rfl)⟩
  · clear hl15
    intro e a w hq
    cases cr14 with
    | ret r16 =>
      obtain ⟨rfl, hq⟩ := hq
      obtain rfl := Option.some.inj hF
      exact ⟨.inl rfl, hq⟩
    | next s17 =>
      obtain ⟨y18, y19⟩ := s17
      obtain ⟨rfl, h⟩ := hq
      change SatL c [.slot 1 (intVP .i64 a_1), .slot 5 (lpVP (b1 0) 0), .res (lb (b1 0) 135 [bytesCk 8 y19])] a w at h
      refine inBlock_at ?_
      show Code.wp Tryd.prog _ _ a w
      obtain ⟨hv20, hF⟩ := ite_some hF
      obtain ⟨hv21, hF⟩ := ite_some hF
      refine regS mixed hn hG h [500] (ov [0] (op_move q0) <| ov [1, 500] (op_slice_lb (a := 0) (b := a_1) Tryd.underlying135 Tryd.sizeOf5 q0 rfl ⟨_, q1⟩ hv20) <| ov [500, 2] (op_str_lsl [] [] 1 Tryd.underlying129 Tryd.underlying5 Tryd.underlying9 q0 rfl rfl hv21 (by decide)) <| ov [500] (op_assign q0) .nil) fun _ a w h => ?_
      refine wp_ret ?_
      obtain rfl := Option.some.inj hF
      exact ⟨.inl rfl, ret1 h Tryd.results83 (r_tmp 0 rfl) [] [] rfl rfl rfl⟩

def wire_Word (a_0 : Int) : Option (List UInt8) := ((wire_big (IntKind.wrap .u64 a_0) 4).bind fun r1 => some r1)
theorem wire_Word_ok {a_0 : Int} {r : (List UInt8)} (hF : wire_Word a_0 = some r) : CallOk Tryd.prog KG 63 [(intVP .u32 a_0)] [] (fun _ => []) (strVP r) := by
  refine CallOk.intro 6 Tryd.func63 rfl Tryd.ntmps63 (Nat.le_of_ble_eq_true rfl) ?_
  intro c a w hG hn h
  unfold wire_Word at hF
  change SatL c [.slot 0 (intVP .u32 a_0)] a w at h
  refine regS mixed hn hG h [0] (ov [] (op_assign (opc (sc _ (by decide)))) .nil) fun _ a w h => ?_
  obtain ⟨r1, hr1, hF⟩ := bind_some hF
  refine regS mixed hn hG h [500] (ov [0] (op_move q0) <| ov [500] (op_convert_int Tryd.underlying51 Tryd.underlying114 q0) <| oc [500] [] Tryd.call83 (wire_big_ok hr1) ⟨q0, qi, trivial⟩ <| ov [500] (op_assign q0) .nil) fun _ a w h => ?_
  refine wp_ret ?_
  obtain rfl := Option.some.inj hF
  exact ⟨.inl rfl, ret1 h Tryd.results63 (r_tmp 0 rfl) [] [] rfl rfl rfl⟩

def wire_Text (a_0 : List UInt8) : Option (List UInt8) := ((wire_Word (IntKind.wrap .u32 (a_0.length : Int))).bind fun r1 => (if r1.length + a_0.length ≤ mxl then some (r1 ++ a_0) else none))
theorem wire_Text_ok {a_0 : List UInt8} {r : (List UInt8)} (hF : wire_Text a_0 = some r) : CallOk Tryd.prog KG 95 [(strVP a_0)] [] (fun _ => []) (strVP r) := by
  refine CallOk.intro 9 Tryd.func95 rfl Tryd.ntmps95 (Nat.le_of_ble_eq_true rfl) ?_
  intro c a w hG hn h
  unfold wire_Text at hF
  change SatL c [.slot 0 (strVP a_0)] a w at h
  refine regS mixed hn hG h [0] (ov [] (op_assign (opc (sc _ (by decide)))) .nil) fun _ a w h => ?_
  obtain ⟨r1, hr1, hF⟩ := bind_some hF
  obtain ⟨hv2, hF⟩ := ite_some hF
  refine regS mixed hn hG h [500] (ov [0] (op_move q0) <| ov [500] (op_len_str Tryd.underlying9 q0) <| ov [500] (op_convert_int Tryd.underlying3 Tryd.underlying51 q0) <| oc [500] [] Tryd.call63 (wire_Word_ok hr1) ⟨q0, trivial⟩ <| ov [0] (op_move q0) <| ov [501, 500] (op_bin (bin_sadd hv2) q0 q1) <| ov [500] (op_assign q0) .nil) fun _ a w h => ?_
  refine wp_ret ?_
  obtain rfl := Option.some.inj hF
  exact ⟨.inl rfl, ret1 h Tryd.results95 (r_tmp 0 rfl) [] [] rfl rfl rfl⟩

def digest_input.b1 (a_1 : List (List UInt8)) (x7 : Int) (x8 : O_Bld) : Option (Flow (List UInt8) (Int × O_Bld)) := (if (decide (x7 < (a_1.length : Int))) = true then (if (0 : Int) ≤ x7 ∧ x7 < a_1.length then ((wire_Text (a_1.getD x7.toNat default)).bind fun r17 => ((strings_Builder_WriteString x8 r17).bind fun r18 => some (.cont (IntKind.wrap .i64 (x7 + 1), r18.2.2)))) else none) else some (.brk (x7, x8)))
def digest_input (a_0 : Int) (a_1 : List (List UInt8)) : Option (List UInt8) := ((strings_Builder_WriteByte ⟨[]⟩ a_0).bind fun r2 => ((loopN (fun s : Int × O_Bld => digest_input.b1 a_1 s.1 s.2) (((a_1.length : Int) - 0 : Int).toNat + 2) (0, r2.2)).bind fun cr => match cr with | .ret r => some r | .next (y23, y24) => ((strings_Builder_String y24).bind fun r25 => some r25)))
theorem digest_input_ok {a_0 : Int} {a_1 : List (List UInt8)} {r : (List UInt8)} (hF : digest_input a_0 a_1 = some r) : CallOk Tryd.prog KG 80 [(intVP .u8 a_0), (slVP strC a_1)] [] (fun _ => []) (strVP r) := by
  refine CallOk.intro 21 Tryd.func80 rfl Tryd.ntmps80 (Nat.le_of_ble_eq_true rfl) ?_
  intro c a w hG hn h
  unfold digest_input at hF
  change SatL c [.slot 0 (intVP .u8 a_0), .slot 1 (slVP strC a_1)] a w at h
  refine regS mixed hn hG h [0, 1] (ov [] (op_assign (opc (sc _ (by decide)))) .nil) fun _ a w h => ?_
  refine regS mixed hn hG h [0, 1, 501, 500] (ob [] (op_alloc Tryd.zeroValue143 zo143) .nil) fun b1 a w h => ?_
  replace h := h.conv 3 rfl Bld_new
  replace h := h.slotc 2 rfl (fun _ _ h => lp_eqv h)
  replace h := h.sub [0, 1, 2, 3] (by rfl)
  change SatL c [.slot 0 (intVP .u8 a_0), .slot 1 (slVP strC a_1), .slot 5 (eqVP (b1 0)), .res (Bld_e (b1 0) (some ⟨[]⟩))] a w at h
  obtain ⟨r2, hr2, hF⟩ := bind_some hF
  refine regS mixed hn hG h [1, 2, 500] (ov [0] (op_move q0) <| oc [2, 500] [3] Tryd.call93 (strings_Builder_WriteByte_ok hr2) ⟨q0, q1, trivial⟩ .nil) fun _ a w h => ?_
  refine wp_seq ?_
  refine regS mixed hn hG h [1, 502, 501, 500, 2] (ov [0] (op_move q0) <| ov [500] (op_len_sl Tryd.underlying101 q0) <| ov [] (op_move qi) .nil) fun _ a w h => ?_
  refine wp_block ?_
  obtain ⟨cr19, hl20, hF⟩ := bind_some hF
  refine wp_mono (wp_loopN (R := (List UInt8)) (S := Int × O_Bld) (fun s a w => SatL c [.slot 5 (eqVP (b1 0)), .slot 10 (slVP strC a_1), .slot 11 (intVP .i64 (a_1.length : Int)), .slot 12 (intVP .i64 s.1), .res (Bld_e (b1 0) (some s.2))] a w) (fun res e a w => match res with | .next s => e = .exit 0 ∧ SatL c [.slot 5 (eqVP (b1 0)), .res (Bld_e (b1 0) (some s.2))] a w | .ret r => e = .ret ∧ RetOk Tryd.prog Tryd.f80 c (strVP r) (fun _ => []) a w) ?_ _ (0, r2.2) _ _ _ (h.sub [0, 1, 2, 3, 4] (by rfl)) hl20) ?_
  · clear hl20 hF h
    intro s a w o h hF
    obtain ⟨x7, x8⟩ := s
    change digest_input.b1 a_1 x7 x8 = some o at hF
    unfold digest_input.b1 at hF
    change SatL c [.slot 5 (eqVP (b1 0)), .slot 10 (slVP strC a_1), .slot 11 (intVP .i64 (a_1.length : Int)), .slot 12 (intVP .i64 x7), .res (Bld_e (b1 0) (some x8))] a w at h
    refine regS mixed hn hG h [0, 1, 2, 3, 500, 4] (ov [3, 2] (op_bin bin_lss q0 q1) .nil) fun _ a w h => ?_
    refine wp_seq ?_
    refine cnd h hF 4 [0, 1, 2, 3, 5] [0, 1, 2, 3, 5] (fun hb15 hF h => ?_) (fun hb15 hF h => ?_)
    · refine wp_skip ?_
      show Code.wp Tryd.prog _ _ a w
      refine wp_seq ?_
      refine wp_block ?_
      obtain ⟨hv16, hF⟩ := ite_some hF
      refine regS mixed hn hG h [0, 500, 1, 2, 3, 4] (ov [1, 3] (op_indexAddr_sl Tryd.underlying101 Tryd.sizeOf9 lens_strC q0 q1 hv16) <| ov [500] (op_load_pp1 [] Tryd.isAgg9 q0) <| ov [500] (op_assign q0) .nil) fun _ a w h => ?_
      obtain ⟨r17, hr17, hF⟩ := bind_some hF
      obtain ⟨r18, hr18, hF⟩ := bind_some hF
      refine reg mixed hn hG h [0, 2, 3, 4, 500] (ov [1] (op_move q0) <| oc [500] [] Tryd.call95 (wire_Text_ok hr17) ⟨q0, trivial⟩ <| oc [0, 500] [5] Tryd.call94 (strings_Builder_WriteString_ok hr18) ⟨q0, q1, trivial⟩ .nil) fun _ a w h => ?_
      show Code.wp Tryd.prog _ _ a w
      refine reg mixed hn hG h [0, 1, 2, 500, 4] (ov [3] (op_bin bin_add q0 qi) <| od [500] 3 (op_move q0) .nil) fun _ a w h => ?_
      obtain rfl := Option.some.inj hF
      exact ⟨rfl, h.sub [0, 1, 2, 3, 4] (by rfl)⟩
    · refine wp_exit ?_
      obtain rfl := Option.some.inj hF
      exact ⟨exit_ne _, rfl, h.sub [0, 4] (by rfl)⟩
  · clear hl20
    intro e a w hq
    cases cr19 with
    | ret r21 =>
      obtain ⟨rfl, hq⟩ := hq
      obtain rfl := Option.some.inj hF
      exact ⟨.inl rfl, hq⟩
    | next s22 =>
      obtain ⟨y23, y24⟩ := s22
      obtain ⟨rfl, h⟩ := hq
      change SatL c [.slot 5 (eqVP (b1 0)), .res (Bld_e (b1 0) (some y24))] a w at h
      refine inBlock_at ?_
      show Code.wp Tryd.prog _ _ a w
      obtain ⟨r25, hr25, hF⟩ := bind_some hF
      refine regS mixed hn hG h [500] (oc [0] [1] Tryd.call88 (strings_Builder_String_ok hr25) ⟨q0, trivial⟩ <| ov [500] (op_assign q0) .nil) fun _ a w h => ?_
      refine wp_ret ?_
      obtain rfl := Option.some.inj hF
      exact ⟨.inl rfl, ret1 h Tryd.results80 (r_tmp 0 rfl) [] [] rfl rfl rfl⟩

def sha_Begin : Option S_sha_State := some (S_sha_State.mk gFirst [] (0 : Int))
theorem sha_Begin_ok {r : S_sha_State} (hF : sha_Begin = some r) : CallOk Tryd.prog KG 96 [] [] (fun _ => []) (aggVP [intsCk .u32 8 r.f_Words, one (strVP r.f_Rest), one (intVP .u64 r.f_Count)]) := by
  refine CallOk.intro 3 Tryd.func96 rfl Tryd.ntmps96 (Nat.le_of_ble_eq_true rfl) ?_
  intro c a w hG hn h
  unfold sha_Begin at hF
  change SatL c [] a w at h
  refine regS mixed hn hG h [501, 500] (ob [] (op_alloc Tryd.zeroValue158 z158) .nil) fun b1 a w h => ?_
  refine regS mixed hn hG h [0, 500] (ov [] (op_load_pp [intsCk .u32 8 gFirst] [] Tryd.isAgg150 Tryd.sizeOf150 (opg (fun Φ h => h.1)) rfl) <| ov [500] (op_build [(0, .tmp 1)] rfl bu158 z158 ⟨[], [intsCk .u32 8 (List.replicate 8 0)], [one (strVP []), one (intVP .u64 (0 : Int))], [intsCk .u32 8 gFirst], _, rfl, rfl, rfl, q0, (cells_agg _), rfl⟩) <| ou [0, 500] 1 (op_store_w Tryd.sizeOf158 q0 q1 (cells_agg _)) .nil) fun _ a w h => ?_
  refine wp_ret ?_
  obtain rfl := Option.some.inj hF
  exact ⟨.inl rfl, ret1 h Tryd.results96 (r_cell 0 1 rfl rfl Tryd.isAgg158 Tryd.sizeOf158 rfl) [] [] rfl rfl rfl⟩

def bits_RotateLeft32 (a_0 : Int) (a_1 : Int) : Option Int := some (bits .or .u32 (shl .u32 a_0 (bits .and .u64 (IntKind.wrap .u64 a_1) 31)) (shr .u32 a_0 (IntKind.wrap .u64 (32 - (bits .and .u64 (IntKind.wrap .u64 a_1) 31)))))
theorem bits_RotateLeft32_ok {a_0 : Int} {a_1 : Int} {r : Int} (hF : bits_RotateLeft32 a_0 a_1 = some r) : CallOk Tryd.prog KG 108 [(intVP .u32 a_0), (intVP .i64 a_1)] [] (fun _ => []) (intVP .u32 r) := by
  refine CallOk.intro 17 Tryd.func108 rfl Tryd.ntmps108 (Nat.le_of_ble_eq_true rfl) ?_
  intro c a w hG hn h
  unfold bits_RotateLeft32 at hF
  change SatL c [.slot 0 (intVP .u32 a_0), .slot 1 (intVP .i64 a_1)] a w at h
  refine regS mixed hn hG h [0, 1] (ov [] (op_assign qi) .nil) fun _ a w h => ?_
  refine regS mixed hn hG h [0, 500] (ov [1] (op_move q0) <| ov [500] (op_convert_int Tryd.underlying3 Tryd.underlying128 q0) <| ov [500] (op_bin bin_and q0 qi) <| ov [500] (op_assign q0) .nil) fun _ a w h => ?_
  refine regS mixed hn hG h [500] (ov [0] (op_move q0) <| ov [1] (op_move q0) <| ov [501, 500] (op_bin (bin_shlu rfl) q0 q1) <| ov [0] (op_move q0) <| ov [1] (op_move q0) <| ov [500] (op_bin bin_sub qi q0) <| ov [502, 500] (op_bin (bin_shru rfl) q0 q1) <| ov [504, 500] (op_bin bin_or q0 q1) <| ov [500] (op_assign q0) .nil) fun _ a w h => ?_
  refine wp_ret ?_
  obtain rfl := Option.some.inj hF
  exact ⟨.inl rfl, ret1 h Tryd.results108 (r_tmp 0 rfl) [] [] rfl rfl rfl⟩

def sha_schedule.b1 (a_0 : List UInt8) (x18 : Int) (x19 : List Int) : Option (Flow (List Int) (Int × (List Int))) := (if (decide (x18 < (64 : Int))) = true then (if (decide (x18 < (16 : Int))) = true then (if (0 : Int) ≤ IntKind.wrap .i64 (4 * x18) ∧ IntKind.wrap .i64 (4 * x18) ≤ IntKind.wrap .i64 ((IntKind.wrap .i64 (4 * x18)) + 4) ∧ IntKind.wrap .i64 ((IntKind.wrap .i64 (4 * x18)) + 4) ≤ a_0.length then (if (0 : Int) ≤ 0 ∧ (0 : Int) < ((a_0.take (IntKind.wrap .i64 ((IntKind.wrap .i64 (4 * x18)) + 4)).toNat).drop (IntKind.wrap .i64 (4 * x18)).toNat).length then (if (0 : Int) ≤ 1 ∧ (1 : Int) < ((a_0.take (IntKind.wrap .i64 ((IntKind.wrap .i64 (4 * x18)) + 4)).toNat).drop (IntKind.wrap .i64 (4 * x18)).toNat).length then (if (0 : Int) ≤ 2 ∧ (2 : Int) < ((a_0.take (IntKind.wrap .i64 ((IntKind.wrap .i64 (4 * x18)) + 4)).toNat).drop (IntKind.wrap .i64 (4 * x18)).toNat).length then (if (0 : Int) ≤ 3 ∧ (3 : Int) < ((a_0.take (IntKind.wrap .i64 ((IntKind.wrap .i64 (4 * x18)) + 4)).toNat).drop (IntKind.wrap .i64 (4 * x18)).toNat).length then (if (0 : Int) ≤ x18 ∧ x18 < 64 then some (.cont (IntKind.wrap .i64 (x18 + 1), x19.set x18.toNat (bits .or .u32 (bits .or .u32 (bits .or .u32 (shl .u32 (IntKind.wrap .u32 ((((a_0.take (IntKind.wrap .i64 ((IntKind.wrap .i64 (4 * x18)) + 4)).toNat).drop (IntKind.wrap .i64 (4 * x18)).toNat).getD (0 : Int).toNat 0).toNat)) 24) (shl .u32 (IntKind.wrap .u32 ((((a_0.take (IntKind.wrap .i64 ((IntKind.wrap .i64 (4 * x18)) + 4)).toNat).drop (IntKind.wrap .i64 (4 * x18)).toNat).getD (1 : Int).toNat 0).toNat)) 16)) (shl .u32 (IntKind.wrap .u32 ((((a_0.take (IntKind.wrap .i64 ((IntKind.wrap .i64 (4 * x18)) + 4)).toNat).drop (IntKind.wrap .i64 (4 * x18)).toNat).getD (2 : Int).toNat 0).toNat)) 8)) (IntKind.wrap .u32 ((((a_0.take (IntKind.wrap .i64 ((IntKind.wrap .i64 (4 * x18)) + 4)).toNat).drop (IntKind.wrap .i64 (4 * x18)).toNat).getD (3 : Int).toNat 0).toNat))))) else none) else none) else none) else none) else none) else none) else (if (0 : Int) ≤ IntKind.wrap .i64 (x18 - 15) ∧ IntKind.wrap .i64 (x18 - 15) < 64 then (if (0 : Int) ≤ IntKind.wrap .i64 (x18 - 2) ∧ IntKind.wrap .i64 (x18 - 2) < 64 then ((bits_RotateLeft32 (x19.getD (IntKind.wrap .i64 (x18 - 15)).toNat 0) (-7 : Int)).bind fun r49 => ((bits_RotateLeft32 (x19.getD (IntKind.wrap .i64 (x18 - 15)).toNat 0) (-18 : Int)).bind fun r50 => ((bits_RotateLeft32 (x19.getD (IntKind.wrap .i64 (x18 - 2)).toNat 0) (-17 : Int)).bind fun r51 => ((bits_RotateLeft32 (x19.getD (IntKind.wrap .i64 (x18 - 2)).toNat 0) (-19 : Int)).bind fun r52 => (if (0 : Int) ≤ IntKind.wrap .i64 (x18 - 16) ∧ IntKind.wrap .i64 (x18 - 16) < 64 then (if (0 : Int) ≤ IntKind.wrap .i64 (x18 - 7) ∧ IntKind.wrap .i64 (x18 - 7) < 64 then (if (0 : Int) ≤ x18 ∧ x18 < 64 then some (.cont (IntKind.wrap .i64 (x18 + 1), x19.set x18.toNat (IntKind.wrap .u32 ((IntKind.wrap .u32 ((IntKind.wrap .u32 ((x19.getD (IntKind.wrap .i64 (x18 - 16)).toNat 0) + (bits .xor .u32 (bits .xor .u32 r49 r50) (shr .u32 (x19.getD (IntKind.wrap .i64 (x18 - 15)).toNat 0) 3)))) + (x19.getD (IntKind.wrap .i64 (x18 - 7)).toNat 0))) + (bits .xor .u32 (bits .xor .u32 r51 r52) (shr .u32 (x19.getD (IntKind.wrap .i64 (x18 - 2)).toNat 0) 10)))))) else none) else none) else none))))) else none) else none)) else some (.brk (x18, x19)))
def sha_schedule (a_0 : List UInt8) : Option (List Int) := ((loopN (fun s : Int × (List Int) => sha_schedule.b1 a_0 s.1 s.2) ((64 - 0 : Int).toNat + 2) (0, (List.replicate 64 0))).bind fun cr => match cr with | .ret r => some r | .next (y60, y61) => some y61)
theorem sha_schedule_ok {a_0 : List UInt8} {r : (List Int)} (hF : sha_schedule a_0 = some r) : CallOk Tryd.prog KG 107 [(strVP a_0)] [] (fun _ => []) (aggVP [intsCk .u32 64 r]) := by
  refine CallOk.intro 83 Tryd.func107 rfl Tryd.ntmps107 (Nat.le_of_ble_eq_true rfl) ?_
  intro c a w hG hn h
  unfold sha_schedule at hF
  change SatL c [.slot 0 (strVP a_0)] a w at h
  refine regS mixed hn hG h [0, 501, 500] (ob [] (op_alloc Tryd.zeroValue170 z170) .nil) fun b1 a w h => ?_
  refine regS mixed hn hG h [0, 1, 501, 2, 500] (ob [] (op_alloc Tryd.zeroValue170 z170) .nil) fun b2 a w h => ?_
  refine wp_seq ?_
  refine regS mixed hn hG h [0, 1, 2, 500, 3, 4] (ov [] (op_move qi) .nil) fun _ a w h => ?_
  refine wp_block ?_
  obtain ⟨cr56, hl57, hF⟩ := bind_some hF
  refine wp_mono (wp_loopN (R := (List Int)) (S := Int × (List Int)) (fun s a w => SatL c [.slot 0 (strVP a_0), .slot 2 (lpVP (b1 0) 0), .slot 3 (lpVP (b2 0) 0), .slot 10 (intVP .i64 s.1), .res (lb (b1 0) 170 [intsCk .u32 64 (List.replicate 64 0)]), .res (lb (b2 0) 170 [intsCk .u32 64 s.2])] a w) (fun res e a w => match res with | .next s => e = .exit 0 ∧ SatL c [.slot 2 (lpVP (b1 0) 0), .slot 3 (lpVP (b2 0) 0), .res (lb (b1 0) 170 [intsCk .u32 64 (List.replicate 64 0)]), .res (lb (b2 0) 170 [intsCk .u32 64 s.2])] a w | .ret r => e = .ret ∧ RetOk Tryd.prog Tryd.f107 c (aggVP [intsCk .u32 64 r]) (fun _ => []) a w) ?_ _ (0, (List.replicate 64 0)) _ _ _ (h.sub [0, 1, 2, 3, 4, 5] (by rfl)) hl57) ?_
  · clear hl57 hF h
    intro s a w o h hF
    obtain ⟨x18, x19⟩ := s
    change sha_schedule.b1 a_0 x18 x19 = some o at hF
    unfold sha_schedule.b1 at hF
    change SatL c [.slot 0 (strVP a_0), .slot 2 (lpVP (b1 0) 0), .slot 3 (lpVP (b2 0) 0), .slot 10 (intVP .i64 x18), .res (lb (b1 0) 170 [intsCk .u32 64 (List.replicate 64 0)]), .res (lb (b2 0) 170 [intsCk .u32 64 x19])] a w at h
    refine regS mixed hn hG h [0, 1, 2, 3, 500, 4, 5] (ov [3] (op_bin bin_lss q0 qi) .nil) fun _ a w h => ?_
    refine wp_seq ?_
    refine cnd h hF 4 [0, 1, 2, 3, 5, 6] [0, 1, 2, 3, 5, 6] (fun hb39 hF h => ?_) (fun hb39 hF h => ?_)
    · refine wp_skip ?_
      show Code.wp Tryd.prog _ _ a w
      refine wp_seq ?_
      refine wp_block ?_
      refine regS mixed hn hG h [0, 1, 2, 500, 3, 4, 5] (ov [3] (op_move q0) <| ov [500] (op_assign q0) .nil) fun _ a w h => ?_
      refine wp_seq ?_
      refine regS mixed hn hG h [0, 1, 2, 3, 4, 500, 5, 6] (ov [3] (op_move q0) <| ov [500] (op_bin bin_lss q0 qi) .nil) fun _ a w h => ?_
      refine cnd h hF 5 [0, 1, 2, 3, 4, 6, 7] [0, 1, 2, 3, 4, 6, 7] (fun hb40 hF h => ?_) (fun hb40 hF h => ?_)
      · obtain ⟨hv41, hF⟩ := ite_some hF
        refine regS mixed hn hG h [0, 1, 2, 3, 500, 4, 5, 6] (ov [0] (op_move q0) <| ov [3] (op_move q0) <| ov [500] (op_bin bin_mul qi q0) <| ov [3] (op_move q0) <| ov [500] (op_bin bin_mul qi q0) <| ov [500] (op_bin bin_add q0 qi) <| ov [505, 503, 500] (op_slice_str (a := IntKind.wrap .i64 (4 * x18)) (b := IntKind.wrap .i64 ((IntKind.wrap .i64 (4 * x18)) + 4)) Tryd.underlying9 q0 ⟨_, q1⟩ ⟨_, q2⟩ hv41) <| ov [500] (op_assign q0) .nil) fun _ a w h => ?_
        obtain ⟨hv42, hF⟩ := ite_some hF
        obtain ⟨hv43, hF⟩ := ite_some hF
        obtain ⟨hv44, hF⟩ := ite_some hF
        obtain ⟨hv45, hF⟩ := ite_some hF
        obtain ⟨hv46, hF⟩ := ite_some hF
        refine regS mixed hn hG h [0, 1, 2, 5, 6, 500] (ov [3] (op_move q0) <| ov [4] (op_move q0) <| ov [500] (op_index_str Tryd.underlying9 q0 qi hv42) <| ov [500] (op_convert_int Tryd.underlying5 Tryd.underlying51 q0) <| ov [500] (op_bin (bin_shlu rfl) q0 qi) <| ov [4] (op_move q0) <| ov [500] (op_index_str Tryd.underlying9 q0 qi hv43) <| ov [500] (op_convert_int Tryd.underlying5 Tryd.underlying51 q0) <| ov [500] (op_bin (bin_shlu rfl) q0 qi) <| ov [504, 500] (op_bin bin_or q0 q1) <| ov [4] (op_move q0) <| ov [500] (op_index_str Tryd.underlying9 q0 qi hv44) <| ov [500] (op_convert_int Tryd.underlying5 Tryd.underlying51 q0) <| ov [500] (op_bin (bin_shlu rfl) q0 qi) <| ov [504, 500] (op_bin bin_or q0 q1) <| ov [4] (op_move q0) <| ov [500] (op_index_str Tryd.underlying9 q0 qi hv45) <| ov [500] (op_convert_int Tryd.underlying5 Tryd.underlying51 q0) <| ov [503, 500] (op_bin bin_or q0 q1) <| ov [2, 518] (op_indexAddr_lb Tryd.underlying170 Tryd.sizeOf51 q0 q1 hv46) <| ou [500, 501] 7 (op_store_lbI (i := x18) [] [] Tryd.sizeOf51 q0 q1 rfl hv46) .nil) fun _ a w h => ?_
        refine wp_exit ?_
        show Code.wp Tryd.prog _ _ a w
        refine reg mixed hn hG h [0, 1, 2, 500, 4, 5] (ov [3] (op_bin bin_add q0 qi) <| od [500] 3 (op_move q0) .nil) fun _ a w h => ?_
        obtain rfl := Option.some.inj hF
        exact ⟨rfl, h.sub [0, 1, 2, 3, 4, 5] (by rfl)⟩
      · refine wp_skip ?_
        show Code.wp Tryd.prog _ _ a w
        obtain ⟨hv47, hF⟩ := ite_some hF
        obtain ⟨hv48, hF⟩ := ite_some hF
        refine regS mixed hn hG h [0, 1, 2, 3, 501, 500, 4, 5, 6] (ov [3] (op_move q0) <| ov [500] (op_bin bin_sub q0 qi) <| ov [2, 500] (op_indexAddr_lb Tryd.underlying170 Tryd.sizeOf51 q0 q1 hv47) <| ov [500, 6] (op_load_lbI (i := IntKind.wrap .i64 (x18 - 15)) [] [] 1 Tryd.isAgg51 q0 rfl rfl hv47) <| ov [3] (op_move q0) <| ov [500] (op_bin bin_sub q0 qi) <| ov [2, 500] (op_indexAddr_lb Tryd.underlying170 Tryd.sizeOf51 q0 q1 hv48) <| ov [500, 6] (op_load_lbI (i := IntKind.wrap .i64 (x18 - 2)) [] [] 1 Tryd.isAgg51 q0 rfl rfl hv48) <| ov [504] (op_assign q0) <| ov [501] (op_assign q0) .nil) fun _ a w h => ?_
        obtain ⟨r49, hr49, hF⟩ := bind_some hF
        obtain ⟨r50, hr50, hF⟩ := bind_some hF
        refine regS mixed hn hG h [0, 1, 2, 3, 5, 500, 6, 7, 8] (ov [4] (op_move q0) <| oc [500] [] Tryd.call108 (bits_RotateLeft32_ok hr49) ⟨q0, qi, trivial⟩ <| ov [4] (op_move q0) <| oc [500] [] Tryd.call108 (bits_RotateLeft32_ok hr50) ⟨q0, qi, trivial⟩ <| ov [502, 500] (op_bin bin_xor q0 q1) <| ov [4] (op_move q0) <| ov [500] (op_bin (bin_shru rfl) q0 qi) <| ov [502, 500] (op_bin bin_xor q0 q1) <| ov [500] (op_assign q0) .nil) fun _ a w h => ?_
        obtain ⟨r51, hr51, hF⟩ := bind_some hF
        obtain ⟨r52, hr52, hF⟩ := bind_some hF
        refine regS mixed hn hG h [0, 1, 2, 3, 5, 500, 6, 7, 8] (ov [4] (op_move q0) <| oc [500] [] Tryd.call108 (bits_RotateLeft32_ok hr51) ⟨q0, qi, trivial⟩ <| ov [4] (op_move q0) <| oc [500] [] Tryd.call108 (bits_RotateLeft32_ok hr52) ⟨q0, qi, trivial⟩ <| ov [502, 500] (op_bin bin_xor q0 q1) <| ov [4] (op_move q0) <| ov [500] (op_bin (bin_shru rfl) q0 qi) <| ov [502, 500] (op_bin bin_xor q0 q1) <| ov [500] (op_assign q0) .nil) fun _ a w h => ?_
        obtain ⟨hv53, hF⟩ := ite_some hF
        obtain ⟨hv54, hF⟩ := ite_some hF
        obtain ⟨hv55, hF⟩ := ite_some hF
        refine reg mixed hn hG h [0, 1, 2, 6, 7, 500] (ov [3] (op_move q0) <| ov [3] (op_move q0) <| ov [500] (op_bin bin_sub q0 qi) <| ov [2, 500] (op_indexAddr_lb Tryd.underlying170 Tryd.sizeOf51 q0 q1 hv53) <| ov [500, 8] (op_load_lbI (i := IntKind.wrap .i64 (x18 - 16)) [] [] 1 Tryd.isAgg51 q0 rfl rfl hv53) <| ov [4] (op_move q0) <| ov [501, 500] (op_bin bin_add q0 q1) <| ov [3] (op_move q0) <| ov [500] (op_bin bin_sub q0 qi) <| ov [2, 500] (op_indexAddr_lb Tryd.underlying170 Tryd.sizeOf51 q0 q1 hv54) <| ov [500, 8] (op_load_lbI (i := IntKind.wrap .i64 (x18 - 7)) [] [] 1 Tryd.isAgg51 q0 rfl rfl hv54) <| ov [504, 500] (op_bin bin_add q0 q1) <| ov [5] (op_move q0) <| ov [501, 500] (op_bin bin_add q0 q1) <| ov [2, 513] (op_indexAddr_lb Tryd.underlying170 Tryd.sizeOf51 q0 q1 hv55) <| ou [500, 501] 8 (op_store_lbI (i := x18) [] [] Tryd.sizeOf51 q0 q1 rfl hv55) .nil) fun _ a w h => ?_
        show Code.wp Tryd.prog _ _ a w
        refine reg mixed hn hG h [0, 1, 2, 500, 4, 5] (ov [3] (op_bin bin_add q0 qi) <| od [500] 3 (op_move q0) .nil) fun _ a w h => ?_
        obtain rfl := Option.some.inj hF
        exact ⟨rfl, h.sub [0, 1, 2, 3, 4, 5] (by rfl)⟩
    · refine wp_exit ?_
      obtain rfl := Option.some.inj hF
      exact ⟨exit_ne _, rfl, h.sub [1, 2, 4, 5] (by rfl)⟩
  · clear hl57
    intro e a w hq
    cases cr56 with
    | ret r58 =>
      obtain ⟨rfl, hq⟩ := hq
      obtain rfl := Option.some.inj hF
      exact ⟨.inl rfl, hq⟩
    | next s59 =>
      obtain ⟨y60, y61⟩ := s59
      obtain ⟨rfl, h⟩ := hq
      change SatL c [.slot 2 (lpVP (b1 0) 0), .slot 3 (lpVP (b2 0) 0), .res (lb (b1 0) 170 [intsCk .u32 64 (List.replicate 64 0)]), .res (lb (b2 0) 170 [intsCk .u32 64 y61])] a w at h
      refine inBlock_at ?_
      show Code.wp Tryd.prog _ _ a w
      refine regS mixed hn hG h [0, 500] (ov [1, 3] (op_load_w 1 Tryd.isAgg170 Tryd.sizeOf170 q0) <| ou [0, 500] 2 (op_store_w Tryd.sizeOf170 q0 q1 (cells_agg _)) .nil) fun _ a w h => ?_
      refine wp_ret ?_
      obtain rfl := Option.some.inj hF
      exact ⟨.inl rfl, ret1 h Tryd.results107 (r_cell 0 1 rfl rfl Tryd.isAgg170 Tryd.sizeOf170 rfl) [] [] rfl rfl rfl⟩

def sha_Block.b1 (r4 : (List Int)) (x14 : Int) (x15 : List Int) : Option (Flow (List Int) (Int × (List Int))) := (if (decide (x14 < (64 : Int))) = true then ((bits_RotateLeft32 (x15.getD (4 : Int).toNat 0) (-6 : Int)).bind fun r27 => ((bits_RotateLeft32 (x15.getD (4 : Int).toNat 0) (-11 : Int)).bind fun r28 => ((bits_RotateLeft32 (x15.getD (4 : Int).toNat 0) (-25 : Int)).bind fun r29 => (if (0 : Int) ≤ x14 ∧ x14 < 64 then ((bits_RotateLeft32 (x15.getD (0 : Int).toNat 0) (-2 : Int)).bind fun r31 => ((bits_RotateLeft32 (x15.getD (0 : Int).toNat 0) (-13 : Int)).bind fun r32 => ((bits_RotateLeft32 (x15.getD (0 : Int).toNat 0) (-22 : Int)).bind fun r33 => some (.cont (IntKind.wrap .i64 (x14 + 1), ((x15.take (1 : Int).toNat ++ (x15.drop (0 : Int).toNat).take (min ((7 : Int).toNat - (0 : Int).toNat) ((8 : Int).toNat - (1 : Int).toNat)) ++ x15.drop ((1 : Int).toNat + (min ((7 : Int).toNat - (0 : Int).toNat) ((8 : Int).toNat - (1 : Int).toNat)))).set (4 : Int).toNat (IntKind.wrap .u32 (((x15.take (1 : Int).toNat ++ (x15.drop (0 : Int).toNat).take (min ((7 : Int).toNat - (0 : Int).toNat) ((8 : Int).toNat - (1 : Int).toNat)) ++ x15.drop ((1 : Int).toNat + (min ((7 : Int).toNat - (0 : Int).toNat) ((8 : Int).toNat - (1 : Int).toNat)))).getD (4 : Int).toNat 0) + (IntKind.wrap .u32 ((IntKind.wrap .u32 ((IntKind.wrap .u32 ((IntKind.wrap .u32 ((x15.getD (7 : Int).toNat 0) + (bits .xor .u32 (bits .xor .u32 r27 r28) r29))) + (bits .xor .u32 (bits .and .u32 (x15.getD (4 : Int).toNat 0) (x15.getD (5 : Int).toNat 0)) (bits .and .u32 (inot .u32 (x15.getD (4 : Int).toNat 0)) (x15.getD (6 : Int).toNat 0))))) + (gConst.getD x14.toNat 0))) + (r4.getD x14.toNat 0)))))).set (0 : Int).toNat (IntKind.wrap .u32 ((IntKind.wrap .u32 ((IntKind.wrap .u32 ((IntKind.wrap .u32 ((IntKind.wrap .u32 ((IntKind.wrap .u32 ((x15.getD (7 : Int).toNat 0) + (bits .xor .u32 (bits .xor .u32 r27 r28) r29))) + (bits .xor .u32 (bits .and .u32 (x15.getD (4 : Int).toNat 0) (x15.getD (5 : Int).toNat 0)) (bits .and .u32 (inot .u32 (x15.getD (4 : Int).toNat 0)) (x15.getD (6 : Int).toNat 0))))) + (gConst.getD x14.toNat 0))) + (r4.getD x14.toNat 0))) + (bits .xor .u32 (bits .xor .u32 r31 r32) r33))) + (bits .xor .u32 (bits .xor .u32 (bits .and .u32 (x15.getD (0 : Int).toNat 0) (x15.getD (1 : Int).toNat 0)) (bits .and .u32 (x15.getD (0 : Int).toNat 0) (x15.getD (2 : Int).toNat 0))) (bits .and .u32 (x15.getD (1 : Int).toNat 0) (x15.getD (2 : Int).toNat 0)))))))))) else none)))) else some (.brk (x14, x15)))
def sha_Block.b2 (a_0 : List Int) (x41 : Int) (x42 : List Int) : Option (Flow (List Int) (Int × (List Int))) := (if (decide (x41 < (8 : Int))) = true then (if (0 : Int) ≤ x41 ∧ x41 < 8 then some (.cont (IntKind.wrap .i64 (x41 + 1), x42.set x41.toNat (IntKind.wrap .u32 ((x42.getD x41.toNat 0) + (a_0.getD x41.toNat 0))))) else none) else some (.brk (x41, x42)))
def sha_Block (a_0 : List Int) (a_1 : List UInt8) : Option (List Int) := (if (!decide ((a_1.length : Int) = (64 : Int))) = true then some a_0 else ((sha_schedule a_1).bind fun r4 => ((loopN (fun s : Int × (List Int) => sha_Block.b1 r4 s.1 s.2) ((64 - 0 : Int).toNat + 2) (0, a_0)).bind fun cr => match cr with | .ret r => some r | .next (y38, y39) => ((loopN (fun s : Int × (List Int) => sha_Block.b2 a_0 s.1 s.2) ((8 - 0 : Int).toNat + 2) (0, y39)).bind fun cr => match cr with | .ret r => some r | .next (y53, y54) => some y54))))
theorem sha_Block_ok {a_0 : List Int} {a_1 : List UInt8} {r : (List Int)} (hF : sha_Block a_0 a_1 = some r) : CallOk Tryd.prog KG 102 [(aggVP [intsCk .u32 8 a_0]), (strVP a_1)] [] (fun _ => []) (aggVP [intsCk .u32 8 r]) := by
  refine CallOk.intro 113 Tryd.func102 rfl Tryd.ntmps102 (Nat.le_of_ble_eq_true rfl) ?_
  intro c a w hG hn h
  unfold sha_Block at hF
  change SatL c [.slot 0 (aggVP [intsCk .u32 8 a_0]), .slot 1 (strVP a_1)] a w at h
  refine regS mixed hn hG h [1, 503, 501, 502, 500] (ob [0] (op_box q0 (cells_agg _)) <| ob [] (op_alloc Tryd.zeroValue150 z150) .nil) fun b1 a w h => ?_
  refine wp_seq ?_
  refine regS mixed hn hG h [0, 1, 2, 500, 3, 4] (ov [0] (op_move q0) <| ov [500] (op_len_str Tryd.underlying9 q0) <| ov [500] (op_bin bin_neq q0 qi) .nil) fun _ a w h => ?_
  refine cnd h hF 3 [1, 2, 4, 5] [0, 1, 2, 4, 5] (fun hb3 hF h => ?_) (fun hb3 hF h => ?_)
  · refine regS mixed hn hG h [1, 500] (ov [0, 2] (op_load_w 1 Tryd.isAgg150 Tryd.sizeOf150 q0) <| ou [1, 500] 3 (op_store_w Tryd.sizeOf150 q0 q1 (cells_agg _)) .nil) fun _ a w h => ?_
    refine wp_ret ?_
    obtain rfl := Option.some.inj hF
    exact ⟨.inl rfl, ret1 h Tryd.results102 (r_cell 0 1 rfl rfl Tryd.isAgg150 Tryd.sizeOf150 rfl) [] [] rfl rfl rfl⟩
  · refine wp_skip ?_
    show Code.wp Tryd.prog _ _ a w
    obtain ⟨r4, hr4, hF⟩ := bind_some hF
    refine regS mixed hn hG h [1, 2, 502, 3, 4, 500] (ov [0] (op_move q0) <| oc [500] [] Tryd.call107 (sha_schedule_ok hr4) ⟨q0, trivial⟩ <| ob [] (op_alloc Tryd.zeroValue170 z170) <| og [501, 502] [500] [.res 2 100000 (fun v1_ _ => (lb (v1_) 170 [intsCk .u32 64 r4]))] (GOk.plain (op_store_w Tryd.sizeOf170 q0 q1 (cells_agg _)) rfl) .nil) fun b5 a w h => ?_
    refine regS mixed hn hG h [0, 1, 2, 502, 3, 4, 5, 500] (ov [0, 3] (op_load_w 1 Tryd.isAgg150 Tryd.sizeOf150 q0) <| ob [] (op_alloc Tryd.zeroValue150 z150) <| og [501, 502] [500] [.res 1 100000 (fun v1_ _ => (lb (v1_) 150 [intsCk .u32 8 a_0]))] (GOk.plain (op_store_w Tryd.sizeOf150 q0 q1 (cells_agg _)) rfl) .nil) fun b6 a w h => ?_
    refine wp_seq ?_
    refine regS mixed hn hG h [0, 1, 2, 3, 500, 4, 5, 6, 7] (ov [] (op_move qi) .nil) fun _ a w h => ?_
    refine wp_block ?_
    obtain ⟨cr34, hl35, hF⟩ := bind_some hF
    refine wp_mono (wp_loopN (R := (List Int)) (S := Int × (List Int)) (fun s a w => SatL c [.slot 2 (lpVP (b1 0) 0), .slot 4 (lpVP (b1 1) 0), .slot 5 (lpVP (b5 2) 0), .slot 6 (lpVP (b6 1) 0), .slot 23 (intVP .i64 s.1), .res (lb (b1 0) 150 [intsCk .u32 8 a_0]), .res (lb (b1 1) 150 [intsCk .u32 8 (List.replicate 8 0)]), .res (lb (b5 2) 170 [intsCk .u32 64 r4]), .res (lb (b6 1) 150 [intsCk .u32 8 s.2])] a w) (fun res e a w => match res with | .next s => e = .exit 0 ∧ SatL c [.slot 2 (lpVP (b1 0) 0), .slot 4 (lpVP (b1 1) 0), .slot 6 (lpVP (b6 1) 0), .res (lb (b1 0) 150 [intsCk .u32 8 a_0]), .res (lb (b1 1) 150 [intsCk .u32 8 (List.replicate 8 0)]), .res (lb (b6 1) 150 [intsCk .u32 8 s.2])] a w | .ret r => e = .ret ∧ RetOk Tryd.prog Tryd.f102 c (aggVP [intsCk .u32 8 r]) (fun _ => []) a w) ?_ _ (0, a_0) _ _ _ (h.sub [0, 1, 2, 3, 4, 5, 6, 7, 8] (by rfl)) hl35) ?_
    · clear hl35 hF h
      intro s a w o h hF
      obtain ⟨x14, x15⟩ := s
      change sha_Block.b1 r4 x14 x15 = some o at hF
      unfold sha_Block.b1 at hF
      change SatL c [.slot 2 (lpVP (b1 0) 0), .slot 4 (lpVP (b1 1) 0), .slot 5 (lpVP (b5 2) 0), .slot 6 (lpVP (b6 1) 0), .slot 23 (intVP .i64 x14), .res (lb (b1 0) 150 [intsCk .u32 8 a_0]), .res (lb (b1 1) 150 [intsCk .u32 8 (List.replicate 8 0)]), .res (lb (b5 2) 170 [intsCk .u32 64 r4]), .res (lb (b6 1) 150 [intsCk .u32 8 x15])] a w at h
      refine regS mixed hn hG h [0, 1, 2, 3, 4, 500, 5, 6, 7, 8] (ov [4] (op_bin bin_lss q0 qi) .nil) fun _ a w h => ?_
      refine wp_seq ?_
      refine cnd h hF 5 [0, 1, 2, 3, 4, 6, 7, 8, 9] [0, 1, 2, 3, 4, 6, 7, 8, 9] (fun hb26 hF h => ?_) (fun hb26 hF h => ?_)
      · refine wp_skip ?_
        show Code.wp Tryd.prog _ _ a w
        refine wp_seq ?_
        refine wp_block ?_
        refine regS mixed hn hG h [0, 1, 2, 3, 500, 4, 5, 6, 7, 8] (ov [4] (op_move q0) <| ov [500] (op_assign q0) .nil) fun _ a w h => ?_
        refine regS mixed hn hG h [0, 1, 2, 3, 4, 501, 500, 5, 6, 7, 8, 9] (ov [3] (op_indexAddr_lb Tryd.underlying150 Tryd.sizeOf51 q0 qi (by decide)) <| ov [500, 9] (op_load_lbI (i := 0) [] [] 1 Tryd.isAgg51 q0 rfl rfl (by decide)) <| ov [3] (op_indexAddr_lb Tryd.underlying150 Tryd.sizeOf51 q0 qi (by decide)) <| ov [500, 9] (op_load_lbI (i := 4) [] [] 1 Tryd.isAgg51 q0 rfl rfl (by decide)) <| ov [502] (op_assign q0) <| ov [501] (op_assign q0) .nil) fun _ a w h => ?_
        obtain ⟨r27, hr27, hF⟩ := bind_some hF
        obtain ⟨r28, hr28, hF⟩ := bind_some hF
        obtain ⟨r29, hr29, hF⟩ := bind_some hF
        refine regS mixed hn hG h [0, 1, 2, 3, 4, 5, 6, 500, 7, 8, 9, 10, 11] (ov [6] (op_move q0) <| oc [500] [] Tryd.call108 (bits_RotateLeft32_ok hr27) ⟨q0, qi, trivial⟩ <| ov [6] (op_move q0) <| oc [500] [] Tryd.call108 (bits_RotateLeft32_ok hr28) ⟨q0, qi, trivial⟩ <| ov [502, 500] (op_bin bin_xor q0 q1) <| ov [6] (op_move q0) <| oc [500] [] Tryd.call108 (bits_RotateLeft32_ok hr29) ⟨q0, qi, trivial⟩ <| ov [502, 500] (op_bin bin_xor q0 q1) <| ov [500] (op_assign q0) .nil) fun _ a w h => ?_
        refine regS mixed hn hG h [0, 1, 2, 3, 4, 5, 7, 500, 8, 9, 10, 11, 12] (ov [6] (op_move q0) <| ov [3] (op_indexAddr_lb Tryd.underlying150 Tryd.sizeOf51 q0 qi (by decide)) <| ov [500, 12] (op_load_lbI (i := 5) [] [] 1 Tryd.isAgg51 q0 rfl rfl (by decide)) <| ov [502, 500] (op_bin bin_and q0 q1) <| ov [6] (op_move q0) <| ov [500] (op_un (un_xor _ _) q0) <| ov [3] (op_indexAddr_lb Tryd.underlying150 Tryd.sizeOf51 q0 qi (by decide)) <| ov [500, 12] (op_load_lbI (i := 6) [] [] 1 Tryd.isAgg51 q0 rfl rfl (by decide)) <| ov [502, 500] (op_bin bin_and q0 q1) <| ov [505, 500] (op_bin bin_xor q0 q1) <| ov [500] (op_assign q0) .nil) fun _ a w h => ?_
        obtain ⟨hv30, hF⟩ := ite_some hF
        refine regS mixed hn hG h [0, 1, 2, 3, 5, 500, 8, 9, 10, 11, 12] (ov [3] (op_indexAddr_lb Tryd.underlying150 Tryd.sizeOf51 q0 qi (by decide)) <| ov [500, 12] (op_load_lbI (i := 7) [] [] 1 Tryd.isAgg51 q0 rfl rfl (by decide)) <| ov [6] (op_move q0) <| ov [501, 500] (op_bin bin_add q0 q1) <| ov [7] (op_move q0) <| ov [501, 500] (op_bin bin_add q0 q1) <| ov [4] (op_move q0) <| ov [500] (op_indexAddr_ppI Tryd.underlying170 Tryd.sizeOf51 (opg (fun Φ h => h.2)) q0 hv30) <| ov [500] (op_load_pp1 [] Tryd.isAgg51 q0) <| ov [503, 500] (op_bin bin_add q0 q1) <| ov [4] (op_move q0) <| ov [2, 500] (op_indexAddr_lb Tryd.underlying170 Tryd.sizeOf51 q0 q1 hv30) <| ov [500, 11] (op_load_lbI (i := x14) [] [] 1 Tryd.isAgg51 q0 rfl rfl hv30) <| ov [503, 500] (op_bin bin_add q0 q1) <| ov [500] (op_assign q0) .nil) fun _ a w h => ?_
        obtain ⟨r31, hr31, hF⟩ := bind_some hF
        obtain ⟨r32, hr32, hF⟩ := bind_some hF
        obtain ⟨r33, hr33, hF⟩ := bind_some hF
        refine regS mixed hn hG h [0, 1, 2, 3, 4, 5, 500, 6, 7, 8, 9, 10] (ov [4] (op_move q0) <| oc [500] [] Tryd.call108 (bits_RotateLeft32_ok hr31) ⟨q0, qi, trivial⟩ <| ov [4] (op_move q0) <| oc [500] [] Tryd.call108 (bits_RotateLeft32_ok hr32) ⟨q0, qi, trivial⟩ <| ov [502, 500] (op_bin bin_xor q0 q1) <| ov [4] (op_move q0) <| oc [500] [] Tryd.call108 (bits_RotateLeft32_ok hr33) ⟨q0, qi, trivial⟩ <| ov [502, 500] (op_bin bin_xor q0 q1) <| ov [500] (op_assign q0) .nil) fun _ a w h => ?_
        refine regS mixed hn hG h [0, 1, 2, 3, 5, 6, 500, 7, 8, 9, 10, 11] (ov [4] (op_move q0) <| ov [3] (op_indexAddr_lb Tryd.underlying150 Tryd.sizeOf51 q0 qi (by decide)) <| ov [500, 11] (op_load_lbI (i := 1) [] [] 1 Tryd.isAgg51 q0 rfl rfl (by decide)) <| ov [502, 500] (op_bin bin_and q0 q1) <| ov [4] (op_move q0) <| ov [3] (op_indexAddr_lb Tryd.underlying150 Tryd.sizeOf51 q0 qi (by decide)) <| ov [500, 11] (op_load_lbI (i := 2) [] [] 1 Tryd.isAgg51 q0 rfl rfl (by decide)) <| ov [502, 500] (op_bin bin_and q0 q1) <| ov [504, 500] (op_bin bin_xor q0 q1) <| ov [3] (op_indexAddr_lb Tryd.underlying150 Tryd.sizeOf51 q0 qi (by decide)) <| ov [500, 11] (op_load_lbI (i := 1) [] [] 1 Tryd.isAgg51 q0 rfl rfl (by decide)) <| ov [3] (op_indexAddr_lb Tryd.underlying150 Tryd.sizeOf51 q0 qi (by decide)) <| ov [500, 11] (op_load_lbI (i := 2) [] [] 1 Tryd.isAgg51 q0 rfl rfl (by decide)) <| ov [502, 500] (op_bin bin_and q0 q1) <| ov [505, 500] (op_bin bin_xor q0 q1) <| ov [500] (op_assign q0) .nil) fun _ a w h => ?_
        refine regS mixed hn hG h [0, 1, 2, 3, 4, 5, 6, 7, 8, 9, 10, 500] (ov [3] (op_slice_lb (a := 1) (b := 8) Tryd.underlying150 Tryd.sizeOf51 q0 ⟨_, qi⟩ rfl (by decide)) <| ov [3] (op_slice_lb (a := 0) (b := 7) Tryd.underlying150 Tryd.sizeOf51 q0 rfl ⟨_, qi⟩ (by decide)) <| oe [501, 500] [11] (GOk.plain (op_copy_lb (i := (1 : Int).toNat) (j := (0 : Int).toNat) [] [] Tryd.underlying175 rfl q0 q1 (by rfl) (by rfl) (by decide) (by decide)) rfl) .nil) fun _ a w h => ?_
        refine regS mixed hn hG h [0, 1, 2, 3, 4, 5, 6, 7, 8, 9, 10, 500] (ov [3] (op_indexAddr_lb Tryd.underlying150 Tryd.sizeOf51 q0 qi (by decide)) <| ov [500, 11] (op_load_lbI (i := 4) [] [] 1 Tryd.isAgg51 q0 rfl rfl (by decide)) <| ov [4] (op_move q0) <| ov [501, 500] (op_bin bin_add q0 q1) <| ov [3] (op_indexAddr_lb Tryd.underlying150 Tryd.sizeOf51 q0 qi (by decide)) <| ou [500, 501] 11 (op_store_lbI (i := 4) [] [] Tryd.sizeOf51 q0 q1 rfl (by decide)) .nil) fun _ a w h => ?_
        refine reg mixed hn hG h [0, 1, 2, 3, 7, 8, 9, 10, 500] (ov [4] (op_move q0) <| ov [5] (op_move q0) <| ov [501, 500] (op_bin bin_add q0 q1) <| ov [6] (op_move q0) <| ov [501, 500] (op_bin bin_add q0 q1) <| ov [3] (op_indexAddr_lb Tryd.underlying150 Tryd.sizeOf51 q0 qi (by decide)) <| ou [500, 501] 11 (op_store_lbI (i := 0) [] [] Tryd.sizeOf51 q0 q1 rfl (by decide)) .nil) fun _ a w h => ?_
        show Code.wp Tryd.prog _ _ a w
        refine reg mixed hn hG h [0, 1, 2, 3, 500, 5, 6, 7, 8] (ov [4] (op_bin bin_add q0 qi) <| od [500] 4 (op_move q0) .nil) fun _ a w h => ?_
        obtain rfl := Option.some.inj hF
        exact ⟨rfl, h.sub [0, 1, 2, 3, 4, 5, 6, 7, 8] (by rfl)⟩
      · refine wp_exit ?_
        obtain rfl := Option.some.inj hF
        exact ⟨exit_ne _, rfl, h.sub [0, 1, 3, 5, 6, 8] (by rfl)⟩
    · clear hl35
      intro e a w hq
      cases cr34 with
      | ret r36 =>
        obtain ⟨rfl, hq⟩ := hq
        obtain rfl := Option.some.inj hF
        exact ⟨.inl rfl, hq⟩
      | next s37 =>
        obtain ⟨y38, y39⟩ := s37
        obtain ⟨rfl, h⟩ := hq
        change SatL c [.slot 2 (lpVP (b1 0) 0), .slot 4 (lpVP (b1 1) 0), .slot 6 (lpVP (b6 1) 0), .res (lb (b1 0) 150 [intsCk .u32 8 a_0]), .res (lb (b1 1) 150 [intsCk .u32 8 (List.replicate 8 0)]), .res (lb (b6 1) 150 [intsCk .u32 8 y39])] a w at h
        refine inBlock_at ?_
        show Code.wp Tryd.prog _ _ a w
        refine wp_seq ?_
        refine regS mixed hn hG h [0, 1, 2, 500, 3, 4, 5] (ov [] (op_move qi) .nil) fun _ a w h => ?_
        refine wp_block ?_
        obtain ⟨cr49, hl50, hF⟩ := bind_some hF
        refine wp_mono (wp_loopN (R := (List Int)) (S := Int × (List Int)) (fun s a w => SatL c [.slot 2 (lpVP (b1 0) 0), .slot 4 (lpVP (b1 1) 0), .slot 6 (lpVP (b6 1) 0), .slot 100 (intVP .i64 s.1), .res (lb (b1 0) 150 [intsCk .u32 8 a_0]), .res (lb (b1 1) 150 [intsCk .u32 8 (List.replicate 8 0)]), .res (lb (b6 1) 150 [intsCk .u32 8 s.2])] a w) (fun res e a w => match res with | .next s => e = .exit 2 ∧ SatL c [.slot 4 (lpVP (b1 1) 0), .slot 6 (lpVP (b6 1) 0), .res (lb (b1 1) 150 [intsCk .u32 8 (List.replicate 8 0)]), .res (lb (b6 1) 150 [intsCk .u32 8 s.2])] a w | .ret r => e = .ret ∧ RetOk Tryd.prog Tryd.f102 c (aggVP [intsCk .u32 8 r]) (fun _ => []) a w) ?_ _ (0, y39) _ _ _ (h.sub [0, 1, 2, 3, 4, 5, 6] (by rfl)) hl50) ?_
        · clear hl50 hF h
          intro s a w o h hF
          obtain ⟨x41, x42⟩ := s
          change sha_Block.b2 a_0 x41 x42 = some o at hF
          unfold sha_Block.b2 at hF
          change SatL c [.slot 2 (lpVP (b1 0) 0), .slot 4 (lpVP (b1 1) 0), .slot 6 (lpVP (b6 1) 0), .slot 100 (intVP .i64 x41), .res (lb (b1 0) 150 [intsCk .u32 8 a_0]), .res (lb (b1 1) 150 [intsCk .u32 8 (List.replicate 8 0)]), .res (lb (b6 1) 150 [intsCk .u32 8 x42])] a w at h
          refine regS mixed hn hG h [0, 1, 2, 3, 500, 4, 5, 6] (ov [3] (op_bin bin_lss q0 qi) .nil) fun _ a w h => ?_
          refine wp_seq ?_
          refine cnd h hF 4 [0, 1, 2, 3, 5, 6, 7] [0, 1, 2, 3, 5, 6, 7] (fun hb47 hF h => ?_) (fun hb47 hF h => ?_)
          · refine wp_skip ?_
            show Code.wp Tryd.prog _ _ a w
            refine wp_seq ?_
            refine wp_block ?_
            refine regS mixed hn hG h [0, 1, 2, 500, 3, 4, 5, 6] (ov [3] (op_move q0) <| ov [500] (op_assign q0) .nil) fun _ a w h => ?_
            obtain ⟨hv48, hF⟩ := ite_some hF
            refine reg mixed hn hG h [0, 1, 2, 4, 5, 6, 500] (ov [3] (op_move q0) <| ov [2, 500] (op_indexAddr_lb Tryd.underlying150 Tryd.sizeOf51 q0 q1 hv48) <| ov [500, 7] (op_load_lbI (i := x41) [] [] 1 Tryd.isAgg51 q0 rfl rfl hv48) <| ov [3] (op_move q0) <| ov [0, 500] (op_indexAddr_lb Tryd.underlying150 Tryd.sizeOf51 q0 q1 hv48) <| ov [500, 5] (op_load_lbI (i := x41) [] [] 1 Tryd.isAgg51 q0 rfl rfl hv48) <| ov [503, 500] (op_bin bin_add q0 q1) <| ov [2, 506] (op_indexAddr_lb Tryd.underlying150 Tryd.sizeOf51 q0 q1 hv48) <| ou [500, 501] 7 (op_store_lbI (i := x41) [] [] Tryd.sizeOf51 q0 q1 rfl hv48) .nil) fun _ a w h => ?_
            show Code.wp Tryd.prog _ _ a w
            refine reg mixed hn hG h [0, 1, 2, 500, 4, 5, 6] (ov [3] (op_bin bin_add q0 qi) <| od [500] 3 (op_move q0) .nil) fun _ a w h => ?_
            obtain rfl := Option.some.inj hF
            exact ⟨rfl, h.sub [0, 1, 2, 3, 4, 5, 6] (by rfl)⟩
          · refine wp_exit ?_
            obtain rfl := Option.some.inj hF
            exact ⟨exit_ne _, rfl, h.sub [1, 2, 5, 6] (by rfl)⟩
        · clear hl50
          intro e a w hq
          cases cr49 with
          | ret r51 =>
            obtain ⟨rfl, hq⟩ := hq
            obtain rfl := Option.some.inj hF
            exact ⟨.inl rfl, hq⟩
          | next s52 =>
            obtain ⟨y53, y54⟩ := s52
            obtain ⟨rfl, h⟩ := hq
            change SatL c [.slot 4 (lpVP (b1 1) 0), .slot 6 (lpVP (b6 1) 0), .res (lb (b1 1) 150 [intsCk .u32 8 (List.replicate 8 0)]), .res (lb (b6 1) 150 [intsCk .u32 8 y54])] a w at h
            refine inBlock_at ?_
            show Code.wp Tryd.prog _ _ a w
            refine regS mixed hn hG h [0, 500] (ov [1, 3] (op_load_w 1 Tryd.isAgg150 Tryd.sizeOf150 q0) <| ou [0, 500] 2 (op_store_w Tryd.sizeOf150 q0 q1 (cells_agg _)) .nil) fun _ a w h => ?_
            refine wp_ret ?_
            obtain rfl := Option.some.inj hF
            exact ⟨.inl rfl, ret1 h Tryd.results102 (r_cell 0 1 rfl rfl Tryd.isAgg150 Tryd.sizeOf150 rfl) [] [] rfl rfl rfl⟩

def sha_State_Add.b1 (x8 : List UInt8) (x9 : S_sha_State) : Option (Flow S_sha_State ((List UInt8) × S_sha_State)) := (if (decide ((64 : Int) ≤ (x8.length : Int))) = true then (if (0 : Int) ≤ 0 ∧ (0 : Int) ≤ 64 ∧ (64 : Int) ≤ x8.length then ((sha_Block x9.f_Words ((x8.take 64).drop (0 : Int).toNat)).bind fun r18 => (if (0 : Int) ≤ 64 ∧ (64 : Int) ≤ (x8.length : Int) ∧ (x8.length : Int) ≤ x8.length then some (.cont ((x8.take (x8.length : Int).toNat).drop 64, (S_sha_State.mk r18 x9.f_Rest x9.f_Count))) else none)) else none) else some (.brk (x8, x9)))
def sha_State_Add (a_0 : S_sha_State) (a_1 : List UInt8) : Option S_sha_State := (if a_0.f_Rest.length + a_1.length ≤ mxl then ((loopN (fun s : (List UInt8) × S_sha_State => sha_State_Add.b1 s.1 s.2) ((((a_0.f_Rest ++ a_1).length : Int) - 64 : Int).toNat + 2) (a_0.f_Rest ++ a_1, (S_sha_State.mk a_0.f_Words a_0.f_Rest (IntKind.wrap .u64 (a_0.f_Count + (IntKind.wrap .u64 (a_1.length : Int))))))).bind fun cr => match cr with | .ret r => some r | .next (y24, y25) => some (S_sha_State.mk y25.f_Words y24 y25.f_Count)) else none)
theorem sha_State_Add_ok {a_0 : S_sha_State} {a_1 : List UInt8} {r : S_sha_State} (hF : sha_State_Add a_0 a_1 = some r) : CallOk Tryd.prog KG 97 [(aggVP [intsCk .u32 8 a_0.f_Words, one (strVP a_0.f_Rest), one (intVP .u64 a_0.f_Count)]), (strVP a_1)] [] (fun _ => []) (aggVP [intsCk .u32 8 r.f_Words, one (strVP r.f_Rest), one (intVP .u64 r.f_Count)]) := by
  refine CallOk.intro 31 Tryd.func97 rfl Tryd.ntmps97 (Nat.le_of_ble_eq_true rfl) ?_
  intro c a w hG hn h
  unfold sha_State_Add at hF
  change SatL c [.slot 0 (aggVP [intsCk .u32 8 a_0.f_Words, one (strVP a_0.f_Rest), one (intVP .u64 a_0.f_Count)]), .slot 1 (strVP a_1)] a w at h
  refine regS mixed hn hG h [1, 503, 501, 502, 500] (ob [0] (op_box q0 (cells_agg _)) <| ob [] (op_alloc Tryd.zeroValue158 z158) .nil) fun b1 a w h => ?_
  refine regS mixed hn hG h [0, 1, 2, 500, 4] (ov [1] (op_fieldAddr_lbm (p := (b1 0)) (n := 1) 0 9 Tryd.underlying158 rfl Tryd.sizeOf114 (by decide) q0 rfl) <| ov [500, 3] (op_load_lb1 [intsCk .u32 8 a_0.f_Words, one (strVP a_0.f_Rest)] [] 1 Tryd.isAgg114 q0 rfl rfl) <| ov [0] (op_move q0) <| ov [500] (op_len_str Tryd.underlying9 q0) <| ov [500] (op_convert_int Tryd.underlying3 Tryd.underlying114 q0) <| ov [503, 500] (op_bin bin_add q0 q1) <| ov [1] (op_fieldAddr_lbm (p := (b1 0)) (n := 1) 0 9 Tryd.underlying158 rfl Tryd.sizeOf114 (by decide) q0 rfl) <| ou [500, 501] 3 (op_store_lb [intsCk .u32 8 a_0.f_Words, one (strVP a_0.f_Rest)] [one (intVP .u64 a_0.f_Count)] [] [one (intVP .u64 (IntKind.wrap .u64 (a_0.f_Count + (IntKind.wrap .u64 (a_1.length : Int)))))] Tryd.sizeOf114 q0 q1 (cells_one (one_int _ _)) rfl rfl rfl) .nil) fun _ a w h => ?_
  obtain ⟨hv3, hF⟩ := ite_some hF
  refine regS mixed hn hG h [1, 2, 500, 3, 4] (ov [1] (op_fieldAddr_lbm (p := (b1 0)) (n := 1) 0 8 Tryd.underlying158 rfl Tryd.sizeOf9 (by decide) q0 rfl) <| ov [500, 3] (op_load_lb1 [intsCk .u32 8 a_0.f_Words] [one (intVP .u64 (IntKind.wrap .u64 (a_0.f_Count + (IntKind.wrap .u64 (a_1.length : Int)))))] 1 Tryd.isAgg9 q0 rfl rfl) <| ov [0] (op_move q0) <| ov [501, 500] (op_bin (bin_sadd hv3) q0 q1) <| ov [500] (op_assign q0) .nil) fun _ a w h => ?_
  refine wp_seq ?_
  refine wp_block ?_
  obtain ⟨cr20, hl21, hF⟩ := bind_some hF
  refine wp_mono (wp_loopN (R := S_sha_State) (S := (List UInt8) × S_sha_State) (fun s a w => SatL c [.slot 2 (lpVP (b1 0) 0), .slot 4 (lpVP (b1 1) 0), .slot 5 (strVP s.1), .res (lb (b1 0) 158 [intsCk .u32 8 s.2.f_Words, one (strVP s.2.f_Rest), one (intVP .u64 s.2.f_Count)]), .res (lb (b1 1) 158 [intsCk .u32 8 ((S_sha_State.mk (List.replicate 8 0) [] (0 : Int)).f_Words), one (strVP ((S_sha_State.mk (List.replicate 8 0) [] (0 : Int)).f_Rest)), one (intVP .u64 ((S_sha_State.mk (List.replicate 8 0) [] (0 : Int)).f_Count))])] a w) (fun res e a w => match res with | .next s => e = .exit 0 ∧ SatL c [.slot 2 (lpVP (b1 0) 0), .slot 4 (lpVP (b1 1) 0), .slot 5 (strVP s.1), .res (lb (b1 0) 158 [intsCk .u32 8 s.2.f_Words, one (strVP s.2.f_Rest), one (intVP .u64 s.2.f_Count)]), .res (lb (b1 1) 158 [intsCk .u32 8 ((S_sha_State.mk (List.replicate 8 0) [] (0 : Int)).f_Words), one (strVP ((S_sha_State.mk (List.replicate 8 0) [] (0 : Int)).f_Rest)), one (intVP .u64 ((S_sha_State.mk (List.replicate 8 0) [] (0 : Int)).f_Count))])] a w | .ret r => e = .ret ∧ RetOk Tryd.prog Tryd.f97 c (aggVP [intsCk .u32 8 r.f_Words, one (strVP r.f_Rest), one (intVP .u64 r.f_Count)]) (fun _ => []) a w) ?_ _ (a_0.f_Rest ++ a_1, (S_sha_State.mk a_0.f_Words a_0.f_Rest (IntKind.wrap .u64 (a_0.f_Count + (IntKind.wrap .u64 (a_1.length : Int)))))) _ _ _ (h.sub [0, 1, 2, 3, 4] (by rfl)) hl21) ?_
  · clear hl21 hF h
    intro s a w o h hF
    obtain ⟨x8, x9⟩ := s
    change sha_State_Add.b1 x8 x9 = some o at hF
    unfold sha_State_Add.b1 at hF
    change SatL c [.slot 2 (lpVP (b1 0) 0), .slot 4 (lpVP (b1 1) 0), .slot 5 (strVP x8), .res (lb (b1 0) 158 [intsCk .u32 8 x9.f_Words, one (strVP x9.f_Rest), one (intVP .u64 x9.f_Count)]), .res (lb (b1 1) 158 [intsCk .u32 8 ((S_sha_State.mk (List.replicate 8 0) [] (0 : Int)).f_Words), one (strVP ((S_sha_State.mk (List.replicate 8 0) [] (0 : Int)).f_Rest)), one (intVP .u64 ((S_sha_State.mk (List.replicate 8 0) [] (0 : Int)).f_Count))])] a w at h
    refine wp_seq ?_
    refine regS mixed hn hG h [0, 1, 2, 500, 3, 4] (ov [2] (op_move q0) <| ov [500] (op_len_str Tryd.underlying9 q0) <| ov [500] (op_bin bin_geq q0 qi) .nil) fun _ a w h => ?_
    refine cnd h hF 3 [0, 1, 2, 4, 5] [0, 1, 2, 4, 5] (fun hb16 hF h => ?_) (fun hb16 hF h => ?_)
    · refine wp_skip ?_
      show Code.wp Tryd.prog _ _ a w
      refine wp_block ?_
      obtain ⟨hv17, hF⟩ := ite_some hF
      obtain ⟨r18, hr18, hF⟩ := bind_some hF
      refine regS mixed hn hG h [0, 1, 2, 500, 4] (ov [0] (op_fieldAddr_lbm (p := (b1 0)) (n := 8) 0 0 Tryd.underlying158 rfl Tryd.sizeOf150 (by decide) q0 rfl) <| ov [500, 3] (op_load_lb [] [intsCk .u32 8 x9.f_Words] [one (strVP x9.f_Rest), one (intVP .u64 x9.f_Count)] 1 Tryd.isAgg150 Tryd.sizeOf150 q0 rfl rfl rfl) <| ov [2] (op_move q0) <| ov [500] (op_slice_str (a := 0) (b := 64) Tryd.underlying9 q0 rfl ⟨_, qi⟩ hv17) <| oc [502, 500] [] Tryd.call102 (sha_Block_ok hr18) ⟨q0, q1, trivial⟩ <| ov [0] (op_fieldAddr_lbm (p := (b1 0)) (n := 8) 0 0 Tryd.underlying158 rfl Tryd.sizeOf150 (by decide) q0 rfl) <| ou [500, 501] 3 (op_store_lb [] [intsCk .u32 8 x9.f_Words] [one (strVP x9.f_Rest), one (intVP .u64 x9.f_Count)] [intsCk .u32 8 r18] Tryd.sizeOf150 q0 q1 (cells_agg _) rfl rfl rfl) .nil) fun _ a w h => ?_
      obtain ⟨hv19, hF⟩ := ite_some hF
      refine reg mixed hn hG h [0, 1, 500, 3, 4] (ov [2] (op_move q0) <| ov [500] (op_slice_str (a := 64) (b := (x8.length : Int)) Tryd.underlying9 q0 ⟨_, qi⟩ rfl hv19) <| od [500] 2 (op_assign q0) .nil) fun _ a w h => ?_
      obtain rfl := Option.some.inj hF
      exact ⟨rfl, h.sub [0, 1, 2, 3, 4] (by rfl)⟩
    · refine wp_exit ?_
      obtain rfl := Option.some.inj hF
      exact ⟨exit_ne _, rfl, h.sub [0, 1, 2, 3, 4] (by rfl)⟩
  · clear hl21
    intro e a w hq
    cases cr20 with
    | ret r22 =>
      obtain ⟨rfl, hq⟩ := hq
      obtain rfl := Option.some.inj hF
      exact ⟨.inl rfl, hq⟩
    | next s23 =>
      obtain ⟨y24, y25⟩ := s23
      obtain ⟨rfl, h⟩ := hq
      change SatL c [.slot 2 (lpVP (b1 0) 0), .slot 4 (lpVP (b1 1) 0), .slot 5 (strVP y24), .res (lb (b1 0) 158 [intsCk .u32 8 y25.f_Words, one (strVP y25.f_Rest), one (intVP .u64 y25.f_Count)]), .res (lb (b1 1) 158 [intsCk .u32 8 ((S_sha_State.mk (List.replicate 8 0) [] (0 : Int)).f_Words), one (strVP ((S_sha_State.mk (List.replicate 8 0) [] (0 : Int)).f_Rest)), one (intVP .u64 ((S_sha_State.mk (List.replicate 8 0) [] (0 : Int)).f_Count))])] a w at h
      refine inBlock_at ?_
      show Code.wp Tryd.prog _ _ a w
      refine regS mixed hn hG h [0, 1, 500, 4] (ov [2] (op_move q0) <| ov [0] (op_fieldAddr_lbm (p := (b1 0)) (n := 1) 0 8 Tryd.underlying158 rfl Tryd.sizeOf9 (by decide) q0 rfl) <| ou [500, 501] 3 (op_store_lb [intsCk .u32 8 y25.f_Words] [one (strVP y25.f_Rest)] [one (intVP .u64 y25.f_Count)] [one (strVP y24)] Tryd.sizeOf9 q0 q1 (cells_one (one_str _)) rfl rfl rfl) .nil) fun _ a w h => ?_
      refine regS mixed hn hG h [1, 500] (ov [0, 2] (op_load_w 1 Tryd.isAgg158 Tryd.sizeOf158 q0) <| ou [1, 500] 3 (op_store_w Tryd.sizeOf158 q0 q1 (cells_agg _)) .nil) fun _ a w h => ?_
      refine wp_ret ?_
      obtain rfl := Option.some.inj hF
      exact ⟨.inl rfl, ret1 h Tryd.results97 (r_cell 0 1 rfl rfl Tryd.isAgg158 Tryd.sizeOf158 rfl) [] [] rfl rfl rfl⟩

def sha_State_End.b1 (a_0 : S_sha_State) (x6 : Int) (x7 : List UInt8) : Option (Flow (List UInt8) (Int × (List UInt8))) := (if (decide (x6 < (8 : Int))) = true then (if (0 : Int) ≤ IntKind.wrap .i64 (56 - (IntKind.wrap .i64 (8 * x6))) then (if (0 : Int) ≤ x6 ∧ x6 < 8 then some (.cont (IntKind.wrap .i64 (x6 + 1), x7.set x6.toNat (u8of (IntKind.wrap .u8 (shr .u64 (IntKind.wrap .u64 (8 * a_0.f_Count)) (IntKind.wrap .i64 (56 - (IntKind.wrap .i64 (8 * x6))))))))) else none) else none) else some (.brk (x6, x7)))
def sha_State_End.b3 (r25 : S_sha_State) (x38 : Int) (x59 : Int) (x60 : List UInt8) : Option (Flow (List UInt8) (Int × (List UInt8))) := (if (decide (x59 < (4 : Int))) = true then (if (0 : Int) ≤ IntKind.wrap .i64 (24 - (IntKind.wrap .i64 (8 * x59))) then (if (0 : Int) ≤ IntKind.wrap .i64 ((IntKind.wrap .i64 (4 * x38)) + x59) ∧ IntKind.wrap .i64 ((IntKind.wrap .i64 (4 * x38)) + x59) < 32 then some (.cont (IntKind.wrap .i64 (x59 + 1), x60.set (IntKind.wrap .i64 ((IntKind.wrap .i64 (4 * x38)) + x59)).toNat (u8of (IntKind.wrap .u8 (shr .u32 (r25.f_Words.getD x38.toNat 0) (IntKind.wrap .i64 (24 - (IntKind.wrap .i64 (8 * x59))))))))) else none) else none) else some (.brk (x59, x60)))
def sha_State_End.b2 (r25 : S_sha_State) (x38 : Int) (x39 : List UInt8) : Option (Flow (List UInt8) (Int × (List UInt8))) := (if (decide (x38 < (8 : Int))) = true then (if (0 : Int) ≤ x38 ∧ x38 < 8 then ((loopN (fun s : Int × (List UInt8) => sha_State_End.b3 r25 x38 s.1 s.2) ((4 - 0 : Int).toNat + 2) (0, x39)).bind fun cr => match cr with | .ret r => some (.ret r) | .next (y73, y74) => some (.cont (IntKind.wrap .i64 (x38 + 1), y74))) else none) else some (.brk (x38, x39)))
def sha_State_End (a_0 : S_sha_State) : Option (List UInt8) := ((loopN (fun s : Int × (List UInt8) => sha_State_End.b1 a_0 s.1 s.2) ((8 - 0 : Int).toNat + 2) (0, (List.replicate 8 0))).bind fun cr => match cr with | .ret r => some r | .next (y20, y21) => (if (0 : Int) ≤ (IntKind.wrap .i64 (119 - ((a_0.f_Rest.length : Int).tmod 64))).tmod 64 ∧ [0].length * ((IntKind.wrap .i64 (119 - ((a_0.f_Rest.length : Int).tmod 64))).tmod 64 : Int).toNat ≤ 140737488355328 then (if [128].length + (Lib.repeatL [0] ((IntKind.wrap .i64 (119 - ((a_0.f_Rest.length : Int).tmod 64))).tmod 64 : Int).toNat).length ≤ mxl then (if ([128] ++ (Lib.repeatL [0] ((IntKind.wrap .i64 (119 - ((a_0.f_Rest.length : Int).tmod 64))).tmod 64 : Int).toNat)).length + (y21.take ((8 : Int).toNat - (0 : Int).toNat)).length ≤ mxl then ((sha_State_Add a_0 (([128] ++ (Lib.repeatL [0] ((IntKind.wrap .i64 (119 - ((a_0.f_Rest.length : Int).tmod 64))).tmod 64 : Int).toNat)) ++ (y21.take ((8 : Int).toNat - (0 : Int).toNat)))).bind fun r25 => ((loopN (fun s : Int × (List UInt8) => sha_State_End.b2 r25 s.1 s.2) ((8 - 0 : Int).toNat + 2) (0, (List.replicate 32 0))).bind fun cr => match cr with | .ret r => some r | .next (y79, y80) => some y80)) else none) else none) else none))
theorem sha_State_End_ok {a_0 : S_sha_State} {r : (List UInt8)} (hF : sha_State_End a_0 = some r) : CallOk Tryd.prog KG 98 [(aggVP [intsCk .u32 8 a_0.f_Words, one (strVP a_0.f_Rest), one (intVP .u64 a_0.f_Count)])] [] (fun _ => []) (aggVP [bytesCk 32 r]) := by
  refine CallOk.intro 63 Tryd.func98 rfl Tryd.ntmps98 (Nat.le_of_ble_eq_true rfl) ?_
  intro c a w hG hn h
  unfold sha_State_End at hF
  change SatL c [.slot 0 (aggVP [intsCk .u32 8 a_0.f_Words, one (strVP a_0.f_Rest), one (intVP .u64 a_0.f_Count)])] a w at h
  refine regS mixed hn hG h [503, 501, 502, 500] (ob [0] (op_box q0 (cells_agg _)) <| ob [] (op_alloc Tryd.zeroValue23 z23) .nil) fun b1 a w h => ?_
  refine regS mixed hn hG h [0, 1, 500, 2, 3] (ov [0] (op_fieldAddr_lbm (p := (b1 0)) (n := 1) 0 9 Tryd.underlying158 rfl Tryd.sizeOf114 (by decide) q0 rfl) <| ov [500, 2] (op_load_lb1 [intsCk .u32 8 a_0.f_Words, one (strVP a_0.f_Rest)] [] 1 Tryd.isAgg114 q0 rfl rfl) <| ov [500] (op_bin bin_mul qi q0) <| ov [500] (op_assign q0) .nil) fun _ a w h => ?_
  refine regS mixed hn hG h [0, 1, 2, 500, 3, 4] (ov [0] (op_fieldAddr_lbm (p := (b1 0)) (n := 1) 0 8 Tryd.underlying158 rfl Tryd.sizeOf9 (by decide) q0 rfl) <| ov [500, 3] (op_load_lb1 [intsCk .u32 8 a_0.f_Words] [one (intVP .u64 a_0.f_Count)] 1 Tryd.isAgg9 q0 rfl rfl) <| ov [500] (op_len_str Tryd.underlying9 q0) <| ov [500] (op_bin (bin_rem (by decide)) q0 qi) <| ov [500] (op_bin bin_sub qi q0) <| ov [500] (op_bin (bin_rem (by decide)) q0 qi) <| ov [500] (op_assign q0) .nil) fun _ a w h => ?_
  refine regS mixed hn hG h [0, 1, 2, 3, 501, 4, 5, 500] (ob [] (op_alloc Tryd.zeroValue135 z135) .nil) fun b3 a w h => ?_
  refine wp_seq ?_
  refine regS mixed hn hG h [0, 1, 2, 3, 4, 500, 5, 6, 7] (ov [] (op_move qi) .nil) fun _ a w h => ?_
  refine wp_block ?_
  obtain ⟨cr16, hl17, hF⟩ := bind_some hF
  refine wp_mono (wp_loopN (R := (List UInt8)) (S := Int × (List UInt8)) (fun s a w => SatL c [.slot 1 (lpVP (b1 0) 0), .slot 2 (lpVP (b1 1) 0), .slot 3 (intVP .u64 (IntKind.wrap .u64 (8 * a_0.f_Count))), .slot 4 (intVP .i64 ((IntKind.wrap .i64 (119 - ((a_0.f_Rest.length : Int).tmod 64))).tmod 64)), .slot 5 (lpVP (b3 0) 0), .slot 20 (intVP .i64 s.1), .res (lb (b1 0) 158 [intsCk .u32 8 a_0.f_Words, one (strVP a_0.f_Rest), one (intVP .u64 a_0.f_Count)]), .res (lb (b1 1) 23 [bytesCk 32 (List.replicate 32 0)]), .res (lb (b3 0) 135 [bytesCk 8 s.2])] a w) (fun res e a w => match res with | .next s => e = .exit 0 ∧ SatL c [.slot 1 (lpVP (b1 0) 0), .slot 2 (lpVP (b1 1) 0), .slot 4 (intVP .i64 ((IntKind.wrap .i64 (119 - ((a_0.f_Rest.length : Int).tmod 64))).tmod 64)), .slot 5 (lpVP (b3 0) 0), .res (lb (b1 0) 158 [intsCk .u32 8 a_0.f_Words, one (strVP a_0.f_Rest), one (intVP .u64 a_0.f_Count)]), .res (lb (b1 1) 23 [bytesCk 32 (List.replicate 32 0)]), .res (lb (b3 0) 135 [bytesCk 8 s.2])] a w | .ret r => e = .ret ∧ RetOk Tryd.prog Tryd.f98 c (aggVP [bytesCk 32 r]) (fun _ => []) a w) ?_ _ (0, (List.replicate 8 0)) _ _ _ (h.sub [0, 1, 2, 3, 4, 5, 6, 7, 8] (by rfl)) hl17) ?_
  · clear hl17 hF h
    intro s a w o h hF
    obtain ⟨x6, x7⟩ := s
    change sha_State_End.b1 a_0 x6 x7 = some o at hF
    unfold sha_State_End.b1 at hF
    change SatL c [.slot 1 (lpVP (b1 0) 0), .slot 2 (lpVP (b1 1) 0), .slot 3 (intVP .u64 (IntKind.wrap .u64 (8 * a_0.f_Count))), .slot 4 (intVP .i64 ((IntKind.wrap .i64 (119 - ((a_0.f_Rest.length : Int).tmod 64))).tmod 64)), .slot 5 (lpVP (b3 0) 0), .slot 20 (intVP .i64 x6), .res (lb (b1 0) 158 [intsCk .u32 8 a_0.f_Words, one (strVP a_0.f_Rest), one (intVP .u64 a_0.f_Count)]), .res (lb (b1 1) 23 [bytesCk 32 (List.replicate 32 0)]), .res (lb (b3 0) 135 [bytesCk 8 x7])] a w at h
    refine regS mixed hn hG h [0, 1, 2, 3, 4, 5, 500, 6, 7, 8] (ov [5] (op_bin bin_lss q0 qi) .nil) fun _ a w h => ?_
    refine wp_seq ?_
    refine cnd h hF 6 [0, 1, 2, 3, 4, 5, 7, 8, 9] [0, 1, 2, 3, 4, 5, 7, 8, 9] (fun hb13 hF h => ?_) (fun hb13 hF h => ?_)
    · refine wp_skip ?_
      show Code.wp Tryd.prog _ _ a w
      refine wp_seq ?_
      refine wp_block ?_
      refine regS mixed hn hG h [0, 1, 2, 3, 4, 500, 5, 6, 7, 8] (ov [5] (op_move q0) <| ov [500] (op_assign q0) .nil) fun _ a w h => ?_
      obtain ⟨hv14, hF⟩ := ite_some hF
      obtain ⟨hv15, hF⟩ := ite_some hF
      refine reg mixed hn hG h [0, 1, 2, 3, 4, 6, 7, 8, 500] (ov [5] (op_move q0) <| ov [2] (op_move q0) <| ov [5] (op_move q0) <| ov [500] (op_bin bin_mul qi q0) <| ov [500] (op_bin bin_sub qi q0) <| ov [503, 500] (op_bin (bin_shr hv14) q0 q1) <| ov [500] (op_convert_int Tryd.underlying114 Tryd.underlying5 q0) <| ov [4, 506] (op_indexAddr_lb Tryd.underlying135 Tryd.sizeOf5 q0 q1 hv15) <| ou [500, 501] 9 (op_store_lbB (i := x6) [] [] Tryd.sizeOf5 q0 q1 rfl hv15) .nil) fun _ a w h => ?_
      show Code.wp Tryd.prog _ _ a w
      refine reg mixed hn hG h [0, 1, 2, 3, 4, 500, 6, 7, 8] (ov [5] (op_bin bin_add q0 qi) <| od [500] 5 (op_move q0) .nil) fun _ a w h => ?_
      obtain rfl := Option.some.inj hF
      exact ⟨rfl, h.sub [0, 1, 2, 3, 4, 5, 6, 7, 8] (by rfl)⟩
    · refine wp_exit ?_
      obtain rfl := Option.some.inj hF
      exact ⟨exit_ne _, rfl, h.sub [0, 1, 3, 4, 6, 7, 8] (by rfl)⟩
  · clear hl17
    intro e a w hq
    cases cr16 with
    | ret r18 =>
      obtain ⟨rfl, hq⟩ := hq
      obtain rfl := Option.some.inj hF
      exact ⟨.inl rfl, hq⟩
    | next s19 =>
      obtain ⟨y20, y21⟩ := s19
      obtain ⟨rfl, h⟩ := hq
      change SatL c [.slot 1 (lpVP (b1 0) 0), .slot 2 (lpVP (b1 1) 0), .slot 4 (intVP .i64 ((IntKind.wrap .i64 (119 - ((a_0.f_Rest.length : Int).tmod 64))).tmod 64)), .slot 5 (lpVP (b3 0) 0), .res (lb (b1 0) 158 [intsCk .u32 8 a_0.f_Words, one (strVP a_0.f_Rest), one (intVP .u64 a_0.f_Count)]), .res (lb (b1 1) 23 [bytesCk 32 (List.replicate 32 0)]), .res (lb (b3 0) 135 [bytesCk 8 y21])] a w at h
      refine inBlock_at ?_
      show Code.wp Tryd.prog _ _ a w
      obtain ⟨hv22, hF⟩ := ite_some hF
      obtain ⟨hv23, hF⟩ := ite_some hF
      obtain ⟨hv24, hF⟩ := ite_some hF
      obtain ⟨r25, hr25, hF⟩ := bind_some hF
      refine regS mixed hn hG h [0, 1, 500, 5] (ov [0, 4] (op_load_w 1 Tryd.isAgg158 Tryd.sizeOf158 q0) <| ov [2] (op_move q0) <| oc [500] [] Tryd.call103 (repeat_ok hv22) ⟨(opc (sc _ (by decide))), q0, trivial⟩ <| ov [500] (op_bin (bin_sadd hv23) (opc (sc _ (by decide))) q0) <| ov [3] (op_slice_lb (a := 0) (b := 8) Tryd.underlying135 Tryd.sizeOf5 q0 rfl rfl (by decide)) <| ov [500, 6] (op_str_lsl [] [] 1 Tryd.underlying129 Tryd.underlying5 Tryd.underlying9 q0 rfl rfl (by decide) (by decide)) <| ov [502, 500] (op_bin (bin_sadd hv24) q0 q1) <| oc [506, 500] [] Tryd.call97 (sha_State_Add_ok hr25) ⟨q0, q1, trivial⟩ <| ou [0, 500] 4 (op_store_w Tryd.sizeOf158 q0 q1 (cells_agg _)) .nil) fun _ a w h => ?_
      refine regS mixed hn hG h [0, 1, 501, 2, 3, 500] (ob [] (op_alloc Tryd.zeroValue23 z23) .nil) fun b26 a w h => ?_
      refine wp_seq ?_
      refine regS mixed hn hG h [1, 2, 501, 500, 4, 5] (ov [0] (op_fieldAddr_lbm (p := (b1 0)) (n := 8) 0 0 Tryd.underlying158 rfl Tryd.sizeOf150 (by decide) q0 rfl) <| ov [500, 3] (op_load_lb [] [intsCk .u32 8 r25.f_Words] [one (strVP r25.f_Rest), one (intVP .u64 r25.f_Count)] 1 Tryd.isAgg150 Tryd.sizeOf150 q0 rfl rfl rfl) <| ov [] (op_move qi) .nil) fun _ a w h => ?_
      refine wp_block ?_
      obtain ⟨cr75, hl76, hF⟩ := bind_some hF
      refine wp_mono (wp_loopN (R := (List UInt8)) (S := Int × (List UInt8)) (fun s a w => SatL c [.slot 2 (lpVP (b1 1) 0), .slot 7 (lpVP (b26 0) 0), .slot 41 (aggVP [intsCk .u32 8 r25.f_Words]), .slot 42 (intVP .i64 s.1), .res (lb (b1 1) 23 [bytesCk 32 (List.replicate 32 0)]), .res (lb (b26 0) 23 [bytesCk 32 s.2])] a w) (fun res e a w => match res with | .next s => e = .exit 2 ∧ SatL c [.slot 2 (lpVP (b1 1) 0), .slot 7 (lpVP (b26 0) 0), .res (lb (b1 1) 23 [bytesCk 32 (List.replicate 32 0)]), .res (lb (b26 0) 23 [bytesCk 32 s.2])] a w | .ret r => e = .ret ∧ RetOk Tryd.prog Tryd.f98 c (aggVP [bytesCk 32 r]) (fun _ => []) a w) ?_ _ (0, (List.replicate 32 0)) _ _ _ (h.sub [0, 1, 2, 3, 4, 5] (by rfl)) hl76) ?_
      · clear hl76 hF h
        intro s a w o h hF
        obtain ⟨x38, x39⟩ := s
        change sha_State_End.b2 r25 x38 x39 = some o at hF
        unfold sha_State_End.b2 at hF
        change SatL c [.slot 2 (lpVP (b1 1) 0), .slot 7 (lpVP (b26 0) 0), .slot 41 (aggVP [intsCk .u32 8 r25.f_Words]), .slot 42 (intVP .i64 x38), .res (lb (b1 1) 23 [bytesCk 32 (List.replicate 32 0)]), .res (lb (b26 0) 23 [bytesCk 32 x39])] a w at h
        refine regS mixed hn hG h [0, 1, 2, 3, 500, 4, 5] (ov [3] (op_bin bin_lss q0 qi) .nil) fun _ a w h => ?_
        refine wp_seq ?_
        refine cnd h hF 4 [0, 1, 2, 3, 5, 6] [0, 1, 2, 3, 5, 6] (fun hb54 hF h => ?_) (fun hb54 hF h => ?_)
        · refine wp_skip ?_
          show Code.wp Tryd.prog _ _ a w
          refine wp_seq ?_
          refine wp_block ?_
          obtain ⟨hv55, hF⟩ := ite_some hF
          refine regS mixed hn hG h [0, 1, 501, 500, 2, 3, 4, 5] (ov [3] (op_move q0) <| ov [2, 3] (op_index_aggI Tryd.underlying150 Tryd.sizeOf51 Tryd.isAgg51 q0 q1 hv55) <| ov [501] (op_assign q0) <| ov [501] (op_assign q0) .nil) fun _ a w h => ?_
          refine regS mixed hn hG h [0, 1, 2, 3, 4, 5, 500, 6, 7] (ov [] (op_move qi) .nil) fun _ a w h => ?_
          refine wp_block ?_
          obtain ⟨cr69, hl70, hF⟩ := bind_some hF
          refine wp_mono (wp_loopN (R := (List UInt8)) (S := Int × (List UInt8)) (fun s a w => SatL c [.slot 2 (lpVP (b1 1) 0), .slot 7 (lpVP (b26 0) 0), .slot 8 (intVP .i64 x38), .slot 9 (intVP .u32 (r25.f_Words.getD x38.toNat 0)), .slot 41 (aggVP [intsCk .u32 8 r25.f_Words]), .slot 42 (intVP .i64 x38), .slot 46 (intVP .i64 s.1), .res (lb (b1 1) 23 [bytesCk 32 (List.replicate 32 0)]), .res (lb (b26 0) 23 [bytesCk 32 s.2])] a w) (fun res e a w => match res with | .next s => e = .exit 4 ∧ SatL c [.slot 2 (lpVP (b1 1) 0), .slot 7 (lpVP (b26 0) 0), .slot 41 (aggVP [intsCk .u32 8 r25.f_Words]), .slot 42 (intVP .i64 x38), .res (lb (b1 1) 23 [bytesCk 32 (List.replicate 32 0)]), .res (lb (b26 0) 23 [bytesCk 32 s.2])] a w | .ret r => e = .ret ∧ RetOk Tryd.prog Tryd.f98 c (aggVP [bytesCk 32 r]) (fun _ => []) a w) ?_ _ (0, x39) _ _ _ (h.sub [0, 1, 2, 3, 4, 5, 6, 7, 8] (by rfl)) hl70) ?_
          · clear hl70 hF h
            intro s a w o h hF
            obtain ⟨x59, x60⟩ := s
            change sha_State_End.b3 r25 x38 x59 x60 = some o at hF
            unfold sha_State_End.b3 at hF
            change SatL c [.slot 2 (lpVP (b1 1) 0), .slot 7 (lpVP (b26 0) 0), .slot 8 (intVP .i64 x38), .slot 9 (intVP .u32 (r25.f_Words.getD x38.toNat 0)), .slot 41 (aggVP [intsCk .u32 8 r25.f_Words]), .slot 42 (intVP .i64 x38), .slot 46 (intVP .i64 x59), .res (lb (b1 1) 23 [bytesCk 32 (List.replicate 32 0)]), .res (lb (b26 0) 23 [bytesCk 32 x60])] a w at h
            refine regS mixed hn hG h [0, 1, 2, 3, 4, 5, 6, 500, 7, 8] (ov [6] (op_bin bin_lss q0 qi) .nil) fun _ a w h => ?_
            refine wp_seq ?_
            refine cnd h hF 7 [0, 1, 2, 3, 4, 5, 6, 8, 9] [0, 1, 2, 3, 4, 5, 6, 8, 9] (fun hb66 hF h => ?_) (fun hb66 hF h => ?_)
            · refine wp_skip ?_
              show Code.wp Tryd.prog _ _ a w
              refine wp_seq ?_
              refine wp_block ?_
              refine regS mixed hn hG h [0, 1, 2, 3, 500, 4, 5, 6, 7, 8] (ov [6] (op_move q0) <| ov [500] (op_assign q0) .nil) fun _ a w h => ?_
              obtain ⟨hv67, hF⟩ := ite_some hF
              obtain ⟨hv68, hF⟩ := ite_some hF
              refine reg mixed hn hG h [0, 1, 2, 3, 5, 6, 7, 8, 500] (ov [2] (op_move q0) <| ov [500] (op_bin bin_mul qi q0) <| ov [4] (op_move q0) <| ov [501, 500] (op_bin bin_add q0 q1) <| ov [3] (op_move q0) <| ov [4] (op_move q0) <| ov [500] (op_bin bin_mul qi q0) <| ov [500] (op_bin bin_sub qi q0) <| ov [503, 500] (op_bin (bin_shr hv67) q0 q1) <| ov [500] (op_convert_int Tryd.underlying51 Tryd.underlying5 q0) <| ov [1, 506] (op_indexAddr_lb Tryd.underlying23 Tryd.sizeOf5 q0 q1 hv68) <| ou [500, 501] 9 (op_store_lbB (i := IntKind.wrap .i64 ((IntKind.wrap .i64 (4 * x38)) + x59)) [] [] Tryd.sizeOf5 q0 q1 rfl hv68) .nil) fun _ a w h => ?_
              show Code.wp Tryd.prog _ _ a w
              refine reg mixed hn hG h [0, 1, 2, 3, 4, 5, 500, 7, 8] (ov [6] (op_bin bin_add q0 qi) <| od [500] 6 (op_move q0) .nil) fun _ a w h => ?_
              obtain rfl := Option.some.inj hF
              exact ⟨rfl, h.sub [0, 1, 2, 3, 4, 5, 6, 7, 8] (by rfl)⟩
            · refine wp_exit ?_
              obtain rfl := Option.some.inj hF
              exact ⟨exit_ne _, rfl, h.sub [0, 1, 4, 5, 7, 8] (by rfl)⟩
          · clear hl70
            intro e a w hq
            cases cr69 with
            | ret r71 =>
              obtain ⟨rfl, hq⟩ := hq
              obtain rfl := Option.some.inj hF
              exact ⟨ret_ne, rfl, hq⟩
            | next s72 =>
              obtain ⟨y73, y74⟩ := s72
              obtain ⟨rfl, h⟩ := hq
              change SatL c [.slot 2 (lpVP (b1 1) 0), .slot 7 (lpVP (b26 0) 0), .slot 41 (aggVP [intsCk .u32 8 r25.f_Words]), .slot 42 (intVP .i64 x38), .res (lb (b1 1) 23 [bytesCk 32 (List.replicate 32 0)]), .res (lb (b26 0) 23 [bytesCk 32 y74])] a w at h
              refine inBlock_at ?_
              show Code.wp Tryd.prog _ _ a w
              refine reg mixed hn hG h [0, 1, 2, 500, 4, 5] (ov [3] (op_bin bin_add q0 qi) <| od [500] 3 (op_move q0) .nil) fun _ a w h => ?_
              obtain rfl := Option.some.inj hF
              exact ⟨rfl, h.sub [0, 1, 2, 3, 4, 5] (by rfl)⟩
        · refine wp_exit ?_
          obtain rfl := Option.some.inj hF
          exact ⟨exit_ne _, rfl, h.sub [0, 1, 4, 5] (by rfl)⟩
      · clear hl76
        intro e a w hq
        cases cr75 with
        | ret r77 =>
          obtain ⟨rfl, hq⟩ := hq
          obtain rfl := Option.some.inj hF
          exact ⟨.inl rfl, hq⟩
        | next s78 =>
          obtain ⟨y79, y80⟩ := s78
          obtain ⟨rfl, h⟩ := hq
          change SatL c [.slot 2 (lpVP (b1 1) 0), .slot 7 (lpVP (b26 0) 0), .res (lb (b1 1) 23 [bytesCk 32 (List.replicate 32 0)]), .res (lb (b26 0) 23 [bytesCk 32 y80])] a w at h
          refine inBlock_at ?_
          show Code.wp Tryd.prog _ _ a w
          refine regS mixed hn hG h [0, 500] (ov [1, 3] (op_load_w 1 Tryd.isAgg23 Tryd.sizeOf23 q0) <| ou [0, 500] 2 (op_store_w Tryd.sizeOf23 q0 q1 (cells_agg _)) .nil) fun _ a w h => ?_
          refine wp_ret ?_
          obtain rfl := Option.some.inj hF
          exact ⟨.inl rfl, ret1 h Tryd.results98 (r_cell 0 1 rfl rfl Tryd.isAgg23 Tryd.sizeOf23 rfl) [] [] rfl rfl rfl⟩

def sha_Sum.b1 (a_0 : List (List UInt8)) (x7 : Int) (x8 : S_sha_State) : Option (Flow (List UInt8) (Int × S_sha_State)) := (if (decide (x7 < (a_0.length : Int))) = true then (if (0 : Int) ≤ x7 ∧ x7 < a_0.length then ((sha_State_Add x8 (a_0.getD x7.toNat default)).bind fun r16 => some (.cont (IntKind.wrap .i64 (x7 + 1), r16))) else none) else some (.brk (x7, x8)))
def sha_Sum (a_0 : List (List UInt8)) : Option (List UInt8) := ((sha_Begin).bind fun r2 => ((loopN (fun s : Int × S_sha_State => sha_Sum.b1 a_0 s.1 s.2) (((a_0.length : Int) - 0 : Int).toNat + 2) (0, r2)).bind fun cr => match cr with | .ret r => some r | .next (y21, y22) => ((sha_State_End y22).bind fun r23 => some r23)))
theorem sha_Sum_ok {a_0 : List (List UInt8)} {r : (List UInt8)} (hF : sha_Sum a_0 = some r) : CallOk Tryd.prog KG 81 [(slVP strC a_0)] [] (fun _ => []) (aggVP [bytesCk 32 r]) := by
  refine CallOk.intro 19 Tryd.func81 rfl Tryd.ntmps81 (Nat.le_of_ble_eq_true rfl) ?_
  intro c a w hG hn h
  unfold sha_Sum at hF
  change SatL c [.slot 0 (slVP strC a_0)] a w at h
  refine regS mixed hn hG h [0, 501, 500] (ob [] (op_alloc Tryd.zeroValue23 z23) .nil) fun b1 a w h => ?_
  obtain ⟨r2, hr2, hF⟩ := bind_some hF
  refine regS mixed hn hG h [0, 1, 502, 2, 500] (oc [] [] Tryd.call96 (sha_Begin_ok hr2) trivial <| ob [] (op_alloc Tryd.zeroValue158 z158) <| og [501, 502] [500] [.res 1 100000 (fun v1_ _ => (lb (v1_) 158 [intsCk .u32 8 r2.f_Words, one (strVP r2.f_Rest), one (intVP .u64 r2.f_Count)]))] (GOk.plain (op_store_w Tryd.sizeOf158 q0 q1 (cells_agg _)) rfl) .nil) fun b3 a w h => ?_
  refine wp_seq ?_
  refine regS mixed hn hG h [1, 2, 502, 501, 500, 3, 4] (ov [0] (op_move q0) <| ov [500] (op_len_sl Tryd.underlying101 q0) <| ov [] (op_move qi) .nil) fun _ a w h => ?_
  refine wp_block ?_
  obtain ⟨cr17, hl18, hF⟩ := bind_some hF
  refine wp_mono (wp_loopN (R := (List UInt8)) (S := Int × S_sha_State) (fun s a w => SatL c [.slot 2 (lpVP (b1 0) 0), .slot 3 (lpVP (b3 1) 0), .slot 7 (slVP strC a_0), .slot 8 (intVP .i64 (a_0.length : Int)), .slot 9 (intVP .i64 s.1), .res (lb (b1 0) 23 [bytesCk 32 (List.replicate 32 0)]), .res (lb (b3 1) 158 [intsCk .u32 8 s.2.f_Words, one (strVP s.2.f_Rest), one (intVP .u64 s.2.f_Count)])] a w) (fun res e a w => match res with | .next s => e = .exit 0 ∧ SatL c [.slot 2 (lpVP (b1 0) 0), .slot 3 (lpVP (b3 1) 0), .res (lb (b1 0) 23 [bytesCk 32 (List.replicate 32 0)]), .res (lb (b3 1) 158 [intsCk .u32 8 s.2.f_Words, one (strVP s.2.f_Rest), one (intVP .u64 s.2.f_Count)])] a w | .ret r => e = .ret ∧ RetOk Tryd.prog Tryd.f81 c (aggVP [bytesCk 32 r]) (fun _ => []) a w) ?_ _ (0, r2) _ _ _ (h.sub [0, 1, 2, 3, 4, 5, 6] (by rfl)) hl18) ?_
  · clear hl18 hF h
    intro s a w o h hF
    obtain ⟨x7, x8⟩ := s
    change sha_Sum.b1 a_0 x7 x8 = some o at hF
    unfold sha_Sum.b1 at hF
    change SatL c [.slot 2 (lpVP (b1 0) 0), .slot 3 (lpVP (b3 1) 0), .slot 7 (slVP strC a_0), .slot 8 (intVP .i64 (a_0.length : Int)), .slot 9 (intVP .i64 x7), .res (lb (b1 0) 23 [bytesCk 32 (List.replicate 32 0)]), .res (lb (b3 1) 158 [intsCk .u32 8 x8.f_Words, one (strVP x8.f_Rest), one (intVP .u64 x8.f_Count)])] a w at h
    refine regS mixed hn hG h [0, 1, 2, 3, 4, 500, 5, 6] (ov [4, 3] (op_bin bin_lss q0 q1) .nil) fun _ a w h => ?_
    refine wp_seq ?_
    refine cnd h hF 5 [0, 1, 2, 3, 4, 6, 7] [0, 1, 2, 3, 4, 6, 7] (fun hb14 hF h => ?_) (fun hb14 hF h => ?_)
    · refine wp_skip ?_
      show Code.wp Tryd.prog _ _ a w
      refine wp_seq ?_
      refine wp_block ?_
      obtain ⟨hv15, hF⟩ := ite_some hF
      refine regS mixed hn hG h [0, 1, 500, 2, 3, 4, 5, 6] (ov [2, 4] (op_indexAddr_sl Tryd.underlying101 Tryd.sizeOf9 lens_strC q0 q1 hv15) <| ov [500] (op_load_pp1 [] Tryd.isAgg9 q0) <| ov [500] (op_assign q0) .nil) fun _ a w h => ?_
      obtain ⟨r16, hr16, hF⟩ := bind_some hF
      refine reg mixed hn hG h [0, 1, 3, 4, 5, 6, 500] (ov [1, 7] (op_load_w 1 Tryd.isAgg158 Tryd.sizeOf158 q0) <| ov [2] (op_move q0) <| oc [501, 500] [] Tryd.call97 (sha_State_Add_ok hr16) ⟨q0, q1, trivial⟩ <| ou [1, 500] 7 (op_store_w Tryd.sizeOf158 q0 q1 (cells_agg _)) .nil) fun _ a w h => ?_
      show Code.wp Tryd.prog _ _ a w
      refine reg mixed hn hG h [0, 1, 2, 3, 500, 5, 6] (ov [4] (op_bin bin_add q0 qi) <| od [500] 4 (op_move q0) .nil) fun _ a w h => ?_
      obtain rfl := Option.some.inj hF
      exact ⟨rfl, h.sub [0, 1, 2, 3, 4, 5, 6] (by rfl)⟩
    · refine wp_exit ?_
      obtain rfl := Option.some.inj hF
      exact ⟨exit_ne _, rfl, h.sub [0, 1, 5, 6] (by rfl)⟩
  · clear hl18
    intro e a w hq
    cases cr17 with
    | ret r19 =>
      obtain ⟨rfl, hq⟩ := hq
      obtain rfl := Option.some.inj hF
      exact ⟨.inl rfl, hq⟩
    | next s20 =>
      obtain ⟨y21, y22⟩ := s20
      obtain ⟨rfl, h⟩ := hq
      change SatL c [.slot 2 (lpVP (b1 0) 0), .slot 3 (lpVP (b3 1) 0), .res (lb (b1 0) 23 [bytesCk 32 (List.replicate 32 0)]), .res (lb (b3 1) 158 [intsCk .u32 8 y22.f_Words, one (strVP y22.f_Rest), one (intVP .u64 y22.f_Count)])] a w at h
      refine inBlock_at ?_
      show Code.wp Tryd.prog _ _ a w
      obtain ⟨r23, hr23, hF⟩ := bind_some hF
      refine regS mixed hn hG h [0, 500] (ov [1, 3] (op_load_w 1 Tryd.isAgg158 Tryd.sizeOf158 q0) <| oc [500] [] Tryd.call98 (sha_State_End_ok hr23) ⟨q0, trivial⟩ <| ou [0, 500] 2 (op_store_w Tryd.sizeOf23 q0 q1 (cells_agg _)) .nil) fun _ a w h => ?_
      refine wp_ret ?_
      obtain rfl := Option.some.inj hF
      exact ⟨.inl rfl, ret1 h Tryd.results81 (r_cell 0 1 rfl rfl Tryd.isAgg23 Tryd.sizeOf23 rfl) [] [] rfl rfl rfl⟩

def digest_Log_note.n (a_1 : List UInt8) (a_2 : List UInt8) : Option (Option O_Log) := some none
def digest_Log_note.j2 (x6 : List ((List UInt8) × (List UInt8))) (x7 : List ((List UInt8) × Bool)) : Option (Option O_Log) := some (some ⟨x6, x7⟩)
def digest_Log_note.j1 (s_0 : O_Log) (a_1 : List UInt8) (a_2 : List UInt8) (x5 : Bool) : Option (Option O_Log) := (if x5 = true then digest_Log_note.j2 s_0.f_inputs (upd a_2 true s_0.f_others) else digest_Log_note.j2 (upd a_1 a_2 s_0.f_inputs) s_0.f_others)
def digest_Log_note.s (s_0 : O_Log) (a_1 : List UInt8) (a_2 : List UInt8) : Option (Option O_Log) := (if ((lkp a_1 s_0.f_inputs).isSome) = true then digest_Log_note.j1 s_0 a_1 a_2 (!decide (((lkp a_1 s_0.f_inputs).getD []) = a_2)) else digest_Log_note.j1 s_0 a_1 a_2 false)
def digest_Log_note (L_0 : Option O_Log) (a_1 : List UInt8) (a_2 : List UInt8) : Option (Option O_Log) := match L_0 with | none => digest_Log_note.n a_1 a_2 | some s_0 => digest_Log_note.s s_0 a_1 a_2
theorem digest_Log_note_ok {p_0 : Value} {L_0 : Option O_Log} {a_1 : List UInt8} {a_2 : List UInt8} {r : (Option O_Log)} (hF : digest_Log_note L_0 a_1 a_2 = some r) : CallOk Tryd.prog KG 82 [(eqVP p_0), (aggVP [bytesCk 32 a_1]), (strVP a_2)] [(Log_e p_0 L_0)] (fun _ => [Log_e p_0 r]) (tupVP []) := by
  refine CallOk.intro 36 Tryd.func82 rfl Tryd.ntmps82 (Nat.le_of_ble_eq_true rfl) ?_
  intro c a w hG hn h
  unfold digest_Log_note at hF
  change SatL c [.slot 0 (eqVP p_0), .slot 1 (aggVP [bytesCk 32 a_1]), .slot 2 (strVP a_2), .res (Log_e p_0 L_0)] a w at h
  obtain ⟨h_0_0, h⟩ := h.ex 3 rfl
  obtain ⟨h_0_1, h⟩ := h.ex 3 rfl
  change SatL c [.slot 0 (eqVP p_0), .slot 1 (aggVP [bytesCk 32 a_1]), .slot 2 (strVP a_2), .res (Log_o p_0 h_0_0 h_0_1 L_0)] a w at h
  cases L_0 with
  | none =>
    change digest_Log_note.n a_1 a_2 = some r at hF
    unfold digest_Log_note.n at hF
    obtain rfl := h.isp 3 rfl (fun _ _ _ q => q.2)
    replace h := h.slotc 0 rfl (V' := ptrVP (.pointer none) false) (fun _ _ h => ⟨h, rfl⟩)
    change SatL c [.slot 0 (ptrVP (.pointer none) false), .slot 1 (aggVP [bytesCk 32 a_1]), .slot 2 (strVP a_2), .res (Log_o (.pointer none) h_0_0 h_0_1 none)] a w at h
    refine regS mixed hn hG h [0, 2, 501, 3, 500] (ob [1] (op_box q0 (cells_agg _)) .nil) fun b1 a w h => ?_
    refine wp_seq ?_
    refine regS mixed hn hG h [0, 1, 2, 500, 3, 4] (ov [0] (op_move q0) <| ov [500] (op_bin (bin_pnil Tryd.underlying48) q0 (opc (ec _))) .nil) fun _ a w h => ?_
    refine cond_L h 3 rfl (fun hb2 => ?_) (fun hb2 => ?_)
    · skip
      replace h := h.sel [4]
      refine wp_ret ?_
      replace h := h.conv 0 rfl Log_packo
      change SatL c [.res (Log_e (.pointer none) none)] a w at h
      obtain rfl := Option.some.inj hF
      exact ⟨.inl rfl, retn h (rs := []) (Vs := []) Tryd.results82 (by decide) trivial [0] [(Log_e (.pointer none) none)] rfl rfl rfl⟩
    · cases hb2
  | some s_0 =>
    change digest_Log_note.s s_0 a_1 a_2 = some r at hF
    unfold digest_Log_note.s at hF
    have hp := h.isp 3 rfl (fun Φ f w q => Log_lp Φ f w q)
    replace h := h.slotc 0 rfl (V' := lpVP p_0 0) (fun _ _ h => eq_lp h hp)
    replace h := h.sep (R := lb p_0 111 [one (eqVP h_0_0), one (eqVP h_0_1)]) (S := (RP.sep (mapR h_0_0 arrK (fun l => l.length = 32) (fun u y => RP.val (strVP y) u) s_0.f_inputs) (mapR h_0_1 strK (fun _ => True) (fun u y => RP.val (boolVP y) u) s_0.f_others))) 3 rfl
    replace h := h.sep (R := mapR h_0_0 arrK (fun l => l.length = 32) (fun u y => RP.val (strVP y) u) s_0.f_inputs) (S := (mapR h_0_1 strK (fun _ => True) (fun u y => RP.val (boolVP y) u) s_0.f_others)) 4 rfl
    replace h := h.sub [0, 1, 2, 3, 4, 5] (by rfl)
    change SatL c [.slot 0 (lpVP p_0 0), .slot 1 (aggVP [bytesCk 32 a_1]), .slot 2 (strVP a_2), .res (lb p_0 111 [one (eqVP h_0_0), one (eqVP h_0_1)]), .res (mapR h_0_0 arrK (fun l => l.length = 32) (fun u y => RP.val (strVP y) u) s_0.f_inputs), .res (mapR h_0_1 strK (fun _ => True) (fun u y => RP.val (boolVP y) u) s_0.f_others)] a w at h
    refine regS mixed hn hG h [0, 2, 501, 3, 4, 5, 500] (ob [1] (op_box q0 (cells_agg _)) .nil) fun b3 a w h => ?_
    refine wp_seq ?_
    refine regS mixed hn hG h [0, 1, 2, 500, 3, 4, 5, 6] (ov [0] (op_move q0) <| ov [500] (op_bin (bin_pnil Tryd.underlying48) (lp_ptr q0) (opc (ec _))) .nil) fun _ a w h => ?_
    refine cond_L h 3 rfl (fun hb4 => ?_) (fun hb4 => ?_)
    · cases hb4
    · skip
      replace h := h.sel [0, 1, 2, 4, 5, 6, 7]
      refine wp_skip ?_
      show Code.wp Tryd.prog _ _ a w
      refine regS mixed hn hG h [0, 1, 2, 501, 500, 3, 4, 5, 6] (ov [0] (op_move q0) <| ov [500] (op_nilCheck q0 (ptr_lp _ _)) <| ov [500] (op_fieldAddr_lbm (p := p_0) (n := 1) 0 0 Tryd.underlying111 rfl Tryd.sizeOf108 (by decide) q0 rfl) <| ov [500, 3] (op_load_lb1 [] [one (eqVP h_0_1)] 1 Tryd.isAgg108 q0 rfl rfl) <| ov [2, 6] (op_load_w 1 Tryd.isAgg23 Tryd.sizeOf23 q0) <| ov [501, 500, 4] (op_lookup strVP [] 2 Tryd.underlying108 (keyArr Tryd.underlying23 Tryd.underlying5 Tryd.type5 Tryd.sizeOf5 Tryd.isAgg5) Tryd.zeroValue9 q0 q1 hk_arr rfl res_id (fun _ _ _ _ _ h => h.2) (fun _ => ⟨rfl, by decide⟩)) <| ov [500] (op_move q0) <| ov [500] (op_extract q0 rfl) <| ov [501] (op_extract q0 rfl) <| ov [501] (op_assign q0) <| ov [501] (op_assign q0) .nil) fun _ a w h => ?_
      refine wp_seq ?_
      refine wp_cut (fun a w => ∃ (x5 : Bool), digest_Log_note.j1 s_0 a_1 a_2 x5 = some r ∧ SatL c [.slot 0 (lpVP p_0 0), .slot 2 (strVP a_2), .slot 4 (lpVP (b3 0) 0), .slot 24 (boolVP x5), .res (lb p_0 111 [one (eqVP h_0_0), one (eqVP h_0_1)]), .res (mapR h_0_0 arrK (fun l => l.length = 32) (fun u y => RP.val (strVP y) u) s_0.f_inputs), .res (mapR h_0_1 strK (fun _ => True) (fun u y => RP.val (boolVP y) u) s_0.f_others), .res (lb (b3 0) 23 [bytesCk 32 a_1])] a w) ?_ ?_
      · rcases Bool.eq_false_or_eq_true ((lkp a_1 s_0.f_inputs).isSome) with hb9 | hb9
        · replace hF := tt_of hb9 hF
          refine reg mixed hn hG h [0, 1, 2, 500, 5, 6, 7, 8] (ov [4] (op_move q0) <| ov [500] (op_move q0) <| oe [500, 3] [] (GOk.on_eq hb9 rfl rfl rfl (op_move q0)) <| oe [501, 1] [] (GOk.on_eq hb9 rfl rfl rfl (op_move q0)) <| oe [502, 501, 500] [] (GOk.on_eq hb9 rfl rfl rfl (op_bin bin_sneq q0 q1)) <| ov [503, 500] (op_pick_t hb9 q0 q1) .nil) fun _ a w h => ?_
          exact ⟨!decide (((lkp a_1 s_0.f_inputs).getD []) = a_2), hF, h.sub [0, 1, 2, 3, 4, 5, 6, 7] (by rfl)⟩
        · replace hF := ff_of hb9 hF
          refine reg mixed hn hG h [0, 1, 2, 500, 5, 6, 7, 8] (ov [4] (op_move q0) <| ov [500] (op_move q0) <| oe [500] [] (GOk.off_v (want := true) hb9 rfl rfl rfl rfl) <| oe [501] [] (GOk.off_v (want := true) hb9 rfl rfl rfl rfl) <| oe [502] [] (GOk.off_v (want := true) hb9 rfl rfl rfl rfl) <| ov [503] (op_pick_f hb9 q0 qb) .nil) fun _ a w h => ?_
          exact ⟨false, hF, h.sub [0, 1, 2, 3, 4, 5, 6, 7] (by rfl)⟩
      · clear h hF
        rintro a w ⟨x5, hF, h⟩
        unfold digest_Log_note.j1 at hF
        show Code.wp Tryd.prog _ _ a w
        refine wp_cut (fun a w => ∃ (x6 : List ((List UInt8) × (List UInt8))), ∃ (x7 : List ((List UInt8) × Bool)), digest_Log_note.j2 x6 x7 = some r ∧ SatL c [.res (lb p_0 111 [one (eqVP h_0_0), one (eqVP h_0_1)]), .res (mapR h_0_0 arrK (fun l => l.length = 32) (fun u y => RP.val (strVP y) u) x6), .res (mapR h_0_1 strK (fun _ => True) (fun u y => RP.val (boolVP y) u) x7)] a w) ?_ ?_
        · refine cnd h hF 3 [0, 1, 4, 5, 6] [0, 1, 2, 4, 5, 6, 7] (fun hb8 hF h => ?_) (fun hb8 hF h => ?_)
          · refine reg mixed hn hG h [2, 3, 500] (ov [0] (op_move q0) <| ov [500] (op_nilCheck q0 (ptr_lp _ _)) <| ov [500] (op_fieldAddr_lbm (p := p_0) (n := 1) 0 1 Tryd.underlying111 rfl Tryd.sizeOf109 (by decide) q0 rfl) <| ov [500, 2] (op_load_lb1 [one (eqVP h_0_0)] [] 1 Tryd.isAgg109 q0 rfl rfl) <| ov [1] (op_move q0) <| ou [501, 500] 4 (op_mapUpdate Tryd.underlying109 (keyStr Tryd.underlying9) q0 q1 hk_str qb) .nil) fun _ a w h => ?_
            exact ⟨s_0.f_inputs, upd a_2 true s_0.f_others, hF, h.sub [0, 1, 2] (by rfl)⟩
          · refine reg mixed hn hG h [3, 500, 5] (ov [0] (op_move q0) <| ov [500] (op_nilCheck q0 (ptr_lp _ _)) <| ov [500] (op_fieldAddr_lbm (p := p_0) (n := 1) 0 0 Tryd.underlying111 rfl Tryd.sizeOf108 (by decide) q0 rfl) <| ov [500, 3] (op_load_lb1 [] [one (eqVP h_0_1)] 1 Tryd.isAgg108 q0 rfl rfl) <| ov [2, 6] (op_load_w 1 Tryd.isAgg23 Tryd.sizeOf23 q0) <| ov [1] (op_move q0) <| ou [502, 501, 500] 4 (op_mapUpdate Tryd.underlying108 (keyArr Tryd.underlying23 Tryd.underlying5 Tryd.type5 Tryd.sizeOf5 Tryd.isAgg5) q0 q1 hk_arr q2) .nil) fun _ a w h => ?_
            exact ⟨upd a_1 a_2 s_0.f_inputs, s_0.f_others, hF, h.sub [0, 1, 2] (by rfl)⟩
        · clear h hF
          rintro a w ⟨x6, x7, hF, h⟩
          unfold digest_Log_note.j2 at hF
          replace h := h.unsep 1 2 rfl rfl (by decide)
          replace h := h.unsep 0 1 rfl rfl (by decide)
          replace h := h.conv 0 rfl (R' := Log_e p_0 (some ⟨x6, x7⟩)) (Log_packo (v0 := h_0_0) (v1 := h_0_1) (o := (some ⟨x6, x7⟩)))
          replace h := h.sub [0] (by rfl)
          change SatL c [.res (Log_e p_0 (some ⟨x6, x7⟩))] a w at h
          obtain rfl := Option.some.inj hF
          exact ⟨.inr rfl, retn h (rs := []) (Vs := []) Tryd.results82 (by decide) trivial [0] [(Log_e p_0 (some ⟨x6, x7⟩))] rfl rfl rfl⟩

def digest_Log_Of (L_0 : Option O_Log) (a_1 : Int) (a_2 : List (List UInt8)) : Option ((List UInt8) × (Option O_Log)) := ((digest_input a_1 a_2).bind fun r2 => ((sha_Sum [r2]).bind fun r3 => ((digest_Log_note L_0 r3 r2).bind fun r5 => some (r3, r5))))
theorem digest_Log_Of_ok {p_0 : Value} {L_0 : Option O_Log} {a_1 : Int} {a_2 : List (List UInt8)} {r : (List UInt8) × (Option O_Log)} (hF : digest_Log_Of L_0 a_1 a_2 = some r) : CallOk Tryd.prog KG 62 [(eqVP p_0), (intVP .u8 a_1), (slVP strC a_2)] [(Log_e p_0 L_0)] (fun _ => [Log_e p_0 r.2]) (aggVP [bytesCk 32 r.1]) := by
  refine CallOk.intro 20 Tryd.func62 rfl Tryd.ntmps62 (Nat.le_of_ble_eq_true rfl) ?_
  intro c a w hG hn h
  unfold digest_Log_Of at hF
  change SatL c [.slot 0 (eqVP p_0), .slot 1 (intVP .u8 a_1), .slot 2 (slVP strC a_2), .res (Log_e p_0 L_0)] a w at h
  refine regS mixed hn hG h [0, 1, 2, 501, 3, 500] (ob [] (op_alloc Tryd.zeroValue23 z23) .nil) fun b1 a w h => ?_
  obtain ⟨r2, hr2, hF⟩ := bind_some hF
  refine regS mixed hn hG h [0, 3, 500, 4, 5] (ov [1] (op_move q0) <| ov [2] (op_move q0) <| oc [501, 500] [] Tryd.call80 (digest_input_ok hr2) ⟨q0, q1, trivial⟩ <| ov [500] (op_assign q0) .nil) fun _ a w h => ?_
  obtain ⟨r3, hr3, hF⟩ := bind_some hF
  refine regS mixed hn hG h [0, 1, 2, 502, 3, 4, 500] (ov [2] (op_move q0) <| ov [500] (op_lit (xs := [.tmp 12]) (ys := [r2]) _ rfl Tryd.underlying101 Tryd.sizeOf9 Tryd.zeroValue9 rfl rfl (by decide) (by decide) ⟨⟨_, q0, (cells_one (one_str _))⟩, trivial⟩ lens_strC) <| oc [500] [] Tryd.call81 (sha_Sum_ok hr3) ⟨q0, trivial⟩ <| ob [] (op_alloc Tryd.zeroValue23 z23) <| og [501, 502] [500] [.res 3 100000 (fun v1_ _ => (lb (v1_) 23 [bytesCk 32 r3]))] (GOk.plain (op_store_w Tryd.sizeOf23 q0 q1 (cells_agg _)) rfl) .nil) fun b4 a w h => ?_
  obtain ⟨r5, hr5, hF⟩ := bind_some hF
  refine regS mixed hn hG h [1, 3, 5, 6, 500] (ov [0] (op_move q0) <| ov [3, 6] (op_load_w 1 Tryd.isAgg23 Tryd.sizeOf23 q0) <| ov [2] (op_move q0) <| oc [502, 501, 500] [4] Tryd.call82 (digest_Log_note_ok hr5) ⟨q0, q1, q2, trivial⟩ .nil) fun _ a w h => ?_
  refine regS mixed hn hG h [0, 500, 4] (ov [1, 3] (op_load_w 1 Tryd.isAgg23 Tryd.sizeOf23 q0) <| ou [0, 500] 2 (op_store_w Tryd.sizeOf23 q0 q1 (cells_agg _)) .nil) fun _ a w h => ?_
  refine wp_ret ?_
  obtain rfl := Option.some.inj hF
  exact ⟨.inl rfl, ret1 h Tryd.results62 (r_cell 0 1 rfl rfl Tryd.isAgg23 Tryd.sizeOf23 rfl) [2] [(Log_e p_0 r5)] rfl rfl rfl⟩

def wire_Digest (a_0 : List UInt8) : Option (List UInt8) := some (a_0.take ((32 : Int).toNat - (0 : Int).toNat))
theorem wire_Digest_ok {a_0 : List UInt8} {r : (List UInt8)} (hF : wire_Digest a_0 = some r) : CallOk Tryd.prog KG 64 [(aggVP [bytesCk 32 a_0])] [] (fun _ => []) (strVP r) := by
  refine CallOk.intro 5 Tryd.func64 rfl Tryd.ntmps64 (Nat.le_of_ble_eq_true rfl) ?_
  intro c a w hG hn h
  unfold wire_Digest at hF
  change SatL c [.slot 0 (aggVP [bytesCk 32 a_0])] a w at h
  refine regS mixed hn hG h [502, 501] (ob [0] (op_box q0 (cells_agg _)) <| ov [] (op_assign (opc (sc _ (by decide)))) .nil) fun b1 a w h => ?_
  refine regS mixed hn hG h [500] (ov [0] (op_slice_lb (a := 0) (b := 32) Tryd.underlying23 Tryd.sizeOf5 q0 rfl rfl (by decide)) <| ov [500, 1] (op_str_lsl [] [] 1 Tryd.underlying129 Tryd.underlying5 Tryd.underlying9 q0 rfl rfl (by decide) (by decide)) <| ov [500] (op_assign q0) .nil) fun _ a w h => ?_
  refine wp_ret ?_
  obtain rfl := Option.some.inj hF
  exact ⟨.inl rfl, ret1 h Tryd.results64 (r_tmp 0 rfl) [] [] rfl rfl rfl⟩

def lamport_Public (L_0 : Option O_Log) (a_1 : List UInt8) : Option ((List UInt8) × (Option O_Log)) := ((wire_Digest a_1).bind fun r3 => ((digest_Log_Of L_0 2 [r3]).bind fun r4 => some (r4.1, r4.2)))
theorem lamport_Public_ok {p_0 : Value} {L_0 : Option O_Log} {a_1 : List UInt8} {r : (List UInt8) × (Option O_Log)} (hF : lamport_Public L_0 a_1 = some r) : CallOk Tryd.prog KG 68 [(eqVP p_0), (aggVP [bytesCk 32 a_1])] [(Log_e p_0 L_0)] (fun _ => [Log_e p_0 r.2]) (aggVP [bytesCk 32 r.1]) := by
  refine CallOk.intro 10 Tryd.func68 rfl Tryd.ntmps68 (Nat.le_of_ble_eq_true rfl) ?_
  intro c a w hG hn h
  unfold lamport_Public at hF
  change SatL c [.slot 0 (eqVP p_0), .slot 1 (aggVP [bytesCk 32 a_1]), .res (Log_e p_0 L_0)] a w at h
  refine regS mixed hn hG h [0, 503, 501, 2, 502, 500] (ob [1] (op_box q0 (cells_agg _)) <| ob [] (op_alloc Tryd.zeroValue23 z23) .nil) fun b1 a w h => ?_
  obtain ⟨r3, hr3, hF⟩ := bind_some hF
  obtain ⟨r4, hr4, hF⟩ := bind_some hF
  refine regS mixed hn hG h [2, 500, 501] (ov [0] (op_move q0) <| ov [1, 4] (op_load_w 1 Tryd.isAgg23 Tryd.sizeOf23 q0) <| oc [500] [] Tryd.call64 (wire_Digest_ok hr3) ⟨q0, trivial⟩ <| ov [500] (op_lit (xs := [.tmp 7]) (ys := [r3]) _ rfl Tryd.underlying101 Tryd.sizeOf9 Tryd.zeroValue9 rfl rfl (by decide) (by decide) ⟨⟨_, q0, (cells_one (one_str _))⟩, trivial⟩ lens_strC) <| oc [503, 500] [3] Tryd.call62 (digest_Log_Of_ok hr4) ⟨q0, qi, q1, trivial⟩ <| ou [2, 501] 5 (op_store_w Tryd.sizeOf23 q0 q1 (cells_agg _)) .nil) fun _ a w h => ?_
  refine wp_ret ?_
  obtain rfl := Option.some.inj hF
  exact ⟨.inl rfl, ret1 h Tryd.results68 (r_cell 0 1 rfl rfl Tryd.isAgg23 Tryd.sizeOf23 rfl) [2] [(Log_e p_0 r4.2)] rfl rfl rfl⟩

def wire_Byte (a_0 : Int) : Option (List UInt8) := ((wire_big (IntKind.wrap .u64 a_0) 1).bind fun r1 => some r1)
theorem wire_Byte_ok {a_0 : Int} {r : (List UInt8)} (hF : wire_Byte a_0 = some r) : CallOk Tryd.prog KG 86 [(intVP .u8 a_0)] [] (fun _ => []) (strVP r) := by
  refine CallOk.intro 6 Tryd.func86 rfl Tryd.ntmps86 (Nat.le_of_ble_eq_true rfl) ?_
  intro c a w hG hn h
  unfold wire_Byte at hF
  change SatL c [.slot 0 (intVP .u8 a_0)] a w at h
  refine regS mixed hn hG h [0] (ov [] (op_assign (opc (sc _ (by decide)))) .nil) fun _ a w h => ?_
  obtain ⟨r1, hr1, hF⟩ := bind_some hF
  refine regS mixed hn hG h [500] (ov [0] (op_move q0) <| ov [500] (op_convert_int Tryd.underlying5 Tryd.underlying114 q0) <| oc [500] [] Tryd.call83 (wire_big_ok hr1) ⟨q0, qi, trivial⟩ <| ov [500] (op_assign q0) .nil) fun _ a w h => ?_
  refine wp_ret ?_
  obtain rfl := Option.some.inj hF
  exact ⟨.inl rfl, ret1 h Tryd.results86 (r_tmp 0 rfl) [] [] rfl rfl rfl⟩

def lamport_Secret (L_0 : Option O_Log) (a_1 : List UInt8) (a_2 : Int) (a_3 : Int) (a_4 : Int) : Option ((List UInt8) × (Option O_Log)) := ((wire_Digest a_1).bind fun r3 => ((wire_Word (IntKind.wrap .u32 a_2)).bind fun r4 => ((wire_Byte (IntKind.wrap .u8 a_3)).bind fun r5 => ((wire_Byte (IntKind.wrap .u8 a_4)).bind fun r6 => ((digest_Log_Of L_0 1 [r3, r4, r5, r6]).bind fun r7 => some (r7.1, r7.2))))))
theorem lamport_Secret_ok {p_0 : Value} {L_0 : Option O_Log} {a_1 : List UInt8} {a_2 : Int} {a_3 : Int} {a_4 : Int} {r : (List UInt8) × (Option O_Log)} (hF : lamport_Secret L_0 a_1 a_2 a_3 a_4 = some r) : CallOk Tryd.prog KG 69 [(eqVP p_0), (aggVP [bytesCk 32 a_1]), (intVP .i64 a_2), (intVP .i64 a_3), (intVP .i64 a_4)] [(Log_e p_0 L_0)] (fun _ => [Log_e p_0 r.2]) (aggVP [bytesCk 32 r.1]) := by
  refine CallOk.intro 25 Tryd.func69 rfl Tryd.ntmps69 (Nat.le_of_ble_eq_true rfl) ?_
  intro c a w hG hn h
  unfold lamport_Secret at hF
  change SatL c [.slot 0 (eqVP p_0), .slot 1 (aggVP [bytesCk 32 a_1]), .slot 2 (intVP .i64 a_2), .slot 3 (intVP .i64 a_3), .slot 4 (intVP .i64 a_4), .res (Log_e p_0 L_0)] a w at h
  refine regS mixed hn hG h [0, 2, 3, 4, 503, 501, 5, 502, 500] (ob [1] (op_box q0 (cells_agg _)) <| ob [] (op_alloc Tryd.zeroValue23 z23) .nil) fun b1 a w h => ?_
  obtain ⟨r3, hr3, hF⟩ := bind_some hF
  obtain ⟨r4, hr4, hF⟩ := bind_some hF
  obtain ⟨r5, hr5, hF⟩ := bind_some hF
  obtain ⟨r6, hr6, hF⟩ := bind_some hF
  obtain ⟨r7, hr7, hF⟩ := bind_some hF
  refine regS mixed hn hG h [5, 500, 501] (ov [0] (op_move q0) <| ov [4, 7] (op_load_w 1 Tryd.isAgg23 Tryd.sizeOf23 q0) <| oc [500] [] Tryd.call64 (wire_Digest_ok hr3) ⟨q0, trivial⟩ <| ov [1] (op_move q0) <| ov [500] (op_convert_int Tryd.underlying3 Tryd.underlying51 q0) <| oc [500] [] Tryd.call63 (wire_Word_ok hr4) ⟨q0, trivial⟩ <| ov [2] (op_move q0) <| ov [500] (op_convert_int Tryd.underlying3 Tryd.underlying5 q0) <| oc [500] [] Tryd.call86 (wire_Byte_ok hr5) ⟨q0, trivial⟩ <| ov [3] (op_move q0) <| ov [500] (op_convert_int Tryd.underlying3 Tryd.underlying5 q0) <| oc [500] [] Tryd.call86 (wire_Byte_ok hr6) ⟨q0, trivial⟩ <| ov [509, 506, 503, 500] (op_lit (xs := [.tmp 13, .tmp 16, .tmp 19, .tmp 22]) (ys := [r3, r4, r5, r6]) _ rfl Tryd.underlying101 Tryd.sizeOf9 Tryd.zeroValue9 rfl rfl (by decide) (by decide) ⟨⟨_, q0, (cells_one (one_str _))⟩, ⟨_, q1, (cells_one (one_str _))⟩, ⟨_, q2, (cells_one (one_str _))⟩, ⟨_, q3, (cells_one (one_str _))⟩, trivial⟩ lens_strC) <| oc [512, 500] [6] Tryd.call62 (digest_Log_Of_ok hr7) ⟨q0, qi, q1, trivial⟩ <| ou [5, 501] 8 (op_store_w Tryd.sizeOf23 q0 q1 (cells_agg _)) .nil) fun _ a w h => ?_
  refine wp_ret ?_
  obtain rfl := Option.some.inj hF
  exact ⟨.inl rfl, ret1 h Tryd.results69 (r_cell 0 1 rfl rfl Tryd.isAgg23 Tryd.sizeOf23 rfl) [2] [(Log_e p_0 r7.2)] rfl rfl rfl⟩

def strings_Builder_Write (L_0 : O_Bld) (a_1 : List (UInt8)) : Option (Int × Value × O_Bld) := (if L_0.f_buf.length + a_1.length ≤ mxl ∧ (L_0.f_buf.length + a_1.length) * 1 ≤ 140737488355328 then some ((a_1.length : Int), Value.nilIface, ⟨L_0.f_buf ++ a_1⟩) else none)
theorem strings_Builder_Write_ok {p_0 : Value} {L_0 : O_Bld} {a_1 : List (UInt8)} {r : Int × Value × O_Bld} (hF : strings_Builder_Write L_0 a_1 = some r) : CallOk Tryd.prog KG 87 [(eqVP p_0), (slVP bC a_1)] [(Bld_e p_0 (some L_0))] (fun _ => [Bld_e p_0 (some r.2.2)]) (tupVP [(intVP .i64 r.1), (eqVP r.2.1)]) := by
  refine CallOk.intro 19 Tryd.func87 rfl Tryd.ntmps87 (Nat.le_of_ble_eq_true rfl) ?_
  intro c a w hG hn h
  unfold strings_Builder_Write at hF
  change SatL c [.slot 0 (eqVP p_0), .slot 1 (slVP bC a_1), .res (Bld_e p_0 (some L_0))] a w at h
  obtain ⟨h_0_1, h⟩ := h.ex 2 rfl
  change SatL c [.slot 0 (eqVP p_0), .slot 1 (slVP bC a_1), .res (Bld_o p_0 h_0_1 (some L_0))] a w at h
  have hp := h.isp 2 rfl (fun Φ f w q => Bld_lp Φ f w q)
  replace h := h.slotc 0 rfl (V' := lpVP p_0 0) (fun _ _ h => eq_lp h hp)
  replace h := h.sep (R := lb p_0 143 [one (selfVP p_0), one (eqVP h_0_1)]) (S := (acc h_0_1 5 1 bC L_0.f_buf)) 2 rfl
  replace h := h.sub [0, 1, 2, 3] (by rfl)
  change SatL c [.slot 0 (lpVP p_0 0), .slot 1 (slVP bC a_1), .res (lb p_0 143 [one (selfVP p_0), one (eqVP h_0_1)]), .res (acc h_0_1 5 1 bC L_0.f_buf)] a w at h
  refine regS mixed hn hG h [0, 1, 2, 3] (ov [] (op_assign qi) <| ov [] (op_assign (opc (ec _))) .nil) fun _ a w h => ?_
  refine regS mixed hn hG h [0, 1, 3, 500] (ov [0] (op_move q0) <| oc [500] [2] Tryd.call100 copyCheck_ok ⟨(lp_eqo 0 rfl), trivial⟩ .nil) fun _ a w h => ?_
  obtain ⟨hv1, hF⟩ := ite_some hF
  refine regS mixed hn hG h [1, 500, 503] (ov [0] (op_move q0) <| ov [0] (op_move q0) <| ov [500] (op_nilCheck q0 (ptr_lp _ _)) <| ov [500] (op_fieldAddr_lbm (p := p_0) (n := 1) 0 1 Tryd.underlying143 rfl Tryd.sizeOf129 (by decide) q0 rfl) <| ov [500, 3] (op_load_lb1 [one (selfVP p_0)] [] 1 Tryd.isAgg129 q0 rfl rfl) <| ov [1] (op_move q0) <| og [501, 500] [2] [.slot 14 6 100000 (fun v1_ _ => (eqVP v1_)), .res 6 100000 (fun v1_ _ => (acc (v1_) 5 1 bC (L_0.f_buf ++ a_1)))] (GOk.plain (op_append (i := Tryd.t5) Tryd.underlying129 Tryd.type5 rfl lens_bC (by decide) rfl q0 q1 hv1) rfl) <| ov [507] (op_nilCheck q0 (ptr_lp _ _)) <| ov [500] (op_fieldAddr_lbm (p := p_0) (n := 1) 0 1 Tryd.underlying143 rfl Tryd.sizeOf129 (by decide) q0 rfl) <| og [500, 503, 502] [3] [.res 6 100000 (fun v1_ _ => (lb p_0 143 [one (selfVP p_0), one (eqVP (v1_))]))] (fun {β} => (GOk.plain (op_store_lb [one (selfVP p_0)] [one (eqVP h_0_1)] [] [one (eqVP ((β 6)))] Tryd.sizeOf129 q0 (opone 1 2 rfl rfl acc_one) (cells_h _) rfl rfl rfl) rfl)) .nil) fun b2 a w h => ?_
  refine regS mixed hn hG h [501, 500, 1, 2] (ov [0] (op_move q0) <| ov [500] (op_len_sl Tryd.underlying129 q0) <| ov [500] (op_assign q0) <| ov [] (op_assign (opc (ec _))) .nil) fun _ a w h => ?_
  refine wp_ret ?_
  replace h := h.unsep 2 3 rfl rfl (by decide)
  replace h := h.conv 2 rfl (R' := Bld_e p_0 (some ⟨L_0.f_buf ++ a_1⟩)) (Bld_packo (v1 := (b2 6)) (o := (some ⟨L_0.f_buf ++ a_1⟩)))
  replace h := h.sub [0, 1, 2] (by rfl)
  change SatL c [.slot 4 (intVP .i64 (a_1.length : Int)), .slot 5 (eqVP Value.nilIface), .res (Bld_e p_0 (some ⟨L_0.f_buf ++ a_1⟩))] a w at h
  obtain rfl := Option.some.inj hF
  exact ⟨.inl rfl, retn h (rs := [.tmp 4, .tmp 5]) (Vs := [(intVP .i64 (a_1.length : Int)), (eqVP Value.nilIface)]) Tryd.results87 (by decide) ⟨(r_tmp 0 rfl), (r_tmp 1 rfl), trivial⟩ [2] [(Bld_e p_0 (some ⟨L_0.f_buf ++ a_1⟩))] rfl rfl rfl⟩

def lamport_pair.b1 (a_1 : List (List UInt8)) (x10 : Int) (x11 : O_Bld) : Option (Flow ((List UInt8) × (Option O_Log)) (Int × O_Bld)) := (if (decide (x10 < (64 : Int))) = true then (if (0 : Int) ≤ x10 ∧ x10 < 64 then ((strings_Builder_Write x11 (((a_1.getD x10.toNat default).take (32 : Int).toNat).drop (0 : Int).toNat)).bind fun r21 => some (.cont (IntKind.wrap .i64 (x10 + 1), r21.2.2))) else none) else some (.brk (x10, x11)))
def lamport_pair (L_0 : Option O_Log) (a_1 : List (List UInt8)) : Option ((List UInt8) × (Option O_Log)) := ((loopN (fun s : Int × O_Bld => lamport_pair.b1 a_1 s.1 s.2) ((64 - 0 : Int).toNat + 2) (0, ⟨[]⟩)).bind fun cr => match cr with | .ret r => some r | .next (y26, y27) => ((strings_Builder_String y27).bind fun r28 => ((digest_Log_Of L_0 3 [r28]).bind fun r29 => some (r29.1, r29.2))))
theorem lamport_pair_ok {p_0 : Value} {L_0 : Option O_Log} {a_1 : List (List UInt8)} {r : (List UInt8) × (Option O_Log)} (hF : lamport_pair L_0 a_1 = some r) : CallOk Tryd.prog KG 70 [(eqVP p_0), (aggVP [arrCk 64 32 (dC 32) (lens_dC 32) a_1])] [(Log_e p_0 L_0)] (fun _ => [Log_e p_0 r.2]) (aggVP [bytesCk 32 r.1]) := by
  refine CallOk.intro 19 Tryd.func70 rfl Tryd.ntmps70 (Nat.le_of_ble_eq_true rfl) ?_
  intro c a w hG hn h
  unfold lamport_pair at hF
  change SatL c [.slot 0 (eqVP p_0), .slot 1 (aggVP [arrCk 64 32 (dC 32) (lens_dC 32) a_1]), .res (Log_e p_0 L_0)] a w at h
  refine regS mixed hn hG h [0, 503, 501, 2, 502, 500] (ob [1] (op_box q0 (cells_agg _)) <| ob [] (op_alloc Tryd.zeroValue23 z23) .nil) fun b1 a w h => ?_
  refine regS mixed hn hG h [0, 1, 2, 501, 3, 4, 5, 500] (ob [] (op_alloc Tryd.zeroValue143 zo143) .nil) fun b3 a w h => ?_
  refine wp_seq ?_
  refine regS mixed hn hG h [0, 2, 3, 501, 500, 4, 6, 7] (ov [1, 5] (op_load_w 1 Tryd.isAgg122 Tryd.sizeOf122 q0) <| ov [] (op_move qi) .nil) fun _ a w h => ?_
  refine wp_block ?_
  replace h := h.conv 7 rfl Bld_new
  replace h := h.slotc 2 rfl (fun _ _ h => lp_eqv h)
  replace h := h.sub [0, 1, 2, 3, 4, 5, 6, 7] (by rfl)
  change SatL c [.slot 0 (eqVP p_0), .slot 4 (lpVP (b1 1) 0), .slot 5 (eqVP (b3 0)), .slot 8 (aggVP [arrCk 64 32 (dC 32) (lens_dC 32) a_1]), .slot 9 (intVP .i64 0), .res (Log_e p_0 L_0), .res (lb (b1 1) 23 [bytesCk 32 (List.replicate 32 0)]), .res (Bld_e (b3 0) (some ⟨[]⟩))] a w at h
  obtain ⟨cr22, hl23, hF⟩ := bind_some hF
  refine wp_mono (wp_loopN (R := (List UInt8) × (Option O_Log)) (S := Int × O_Bld) (fun s a w => SatL c [.slot 0 (eqVP p_0), .slot 4 (lpVP (b1 1) 0), .slot 5 (eqVP (b3 0)), .slot 8 (aggVP [arrCk 64 32 (dC 32) (lens_dC 32) a_1]), .slot 9 (intVP .i64 s.1), .res (Log_e p_0 L_0), .res (lb (b1 1) 23 [bytesCk 32 (List.replicate 32 0)]), .res (Bld_e (b3 0) (some s.2))] a w) (fun res e a w => match res with | .next s => e = .exit 0 ∧ SatL c [.slot 0 (eqVP p_0), .slot 4 (lpVP (b1 1) 0), .slot 5 (eqVP (b3 0)), .res (Log_e p_0 L_0), .res (lb (b1 1) 23 [bytesCk 32 (List.replicate 32 0)]), .res (Bld_e (b3 0) (some s.2))] a w | .ret r => e = .ret ∧ RetOk Tryd.prog Tryd.f70 c (aggVP [bytesCk 32 r.1]) (fun _ => [Log_e p_0 r.2]) a w) ?_ _ (0, ⟨[]⟩) _ _ _ (h.sub [0, 1, 2, 3, 4, 5, 6, 7] (by rfl)) hl23) ?_
  · clear hl23 hF h
    intro s a w o h hF
    obtain ⟨x10, x11⟩ := s
    change lamport_pair.b1 a_1 x10 x11 = some o at hF
    unfold lamport_pair.b1 at hF
    change SatL c [.slot 0 (eqVP p_0), .slot 4 (lpVP (b1 1) 0), .slot 5 (eqVP (b3 0)), .slot 8 (aggVP [arrCk 64 32 (dC 32) (lens_dC 32) a_1]), .slot 9 (intVP .i64 x10), .res (Log_e p_0 L_0), .res (lb (b1 1) 23 [bytesCk 32 (List.replicate 32 0)]), .res (Bld_e (b3 0) (some x11))] a w at h
    refine regS mixed hn hG h [0, 1, 2, 3, 4, 500, 5, 6, 7] (ov [4] (op_bin bin_lss q0 qi) .nil) fun _ a w h => ?_
    refine wp_seq ?_
    refine cnd h hF 5 [0, 1, 2, 3, 4, 6, 7, 8] [0, 1, 2, 3, 4, 6, 7, 8] (fun hb18 hF h => ?_) (fun hb18 hF h => ?_)
    · refine wp_skip ?_
      show Code.wp Tryd.prog _ _ a w
      refine wp_seq ?_
      refine wp_block ?_
      obtain ⟨hv19, hF⟩ := ite_some hF
      refine regS mixed hn hG h [0, 1, 2, 502, 3, 4, 5, 6, 7, 500] (ov [3, 4] (op_index_aggA (c := (dC 32)) Tryd.underlying122 Tryd.sizeOf23 Tryd.isAgg23 q0 q1 hv19) <| ob [] (op_alloc Tryd.zeroValue23 z23) <| og [501, 502] [500] [.res 1 100000 (fun v1_ _ => (lb (v1_) 23 [bytesCk 32 (a_1.getD x10.toNat default)]))] (GOk.plain (op_store_w Tryd.sizeOf23 q0 q1 (cells_agg _)) rfl) .nil) fun b20 a w h => ?_
      replace h := h.publish 9 rfl
      replace h := h.factslot 3 9 rfl rfl
      replace h := h.sub [0, 1, 2, 3, 4, 5, 6, 7, 8] (by rfl)
      change SatL c [.slot 0 (eqVP p_0), .slot 4 (lpVP (b1 1) 0), .slot 5 (eqVP (b3 0)), .slot 7 (ppVP [bytesCk 32 (a_1.getD x10.toNat default)]), .slot 8 (aggVP [arrCk 64 32 (dC 32) (lens_dC 32) a_1]), .slot 9 (intVP .i64 x10), .res (Log_e p_0 L_0), .res (lb (b1 1) 23 [bytesCk 32 (List.replicate 32 0)]), .res (Bld_e (b3 0) (some x11))] a w at h
      obtain ⟨r21, hr21, hF⟩ := bind_some hF
      refine reg mixed hn hG h [0, 1, 2, 4, 5, 6, 7, 500] (ov [3] (op_slice_ppB (a := 0) (b := 32) Tryd.underlying23 Tryd.sizeOf5 q0 rfl rfl (by decide)) <| oc [2, 500] [8] Tryd.call87 (strings_Builder_Write_ok hr21) ⟨q0, q1, trivial⟩ .nil) fun _ a w h => ?_
      show Code.wp Tryd.prog _ _ a w
      refine reg mixed hn hG h [0, 1, 2, 3, 500, 5, 6, 7] (ov [4] (op_bin bin_add q0 qi) <| od [500] 4 (op_move q0) .nil) fun _ a w h => ?_
      obtain rfl := Option.some.inj hF
      exact ⟨rfl, h.sub [0, 1, 2, 3, 4, 5, 6, 7] (by rfl)⟩
    · refine wp_exit ?_
      obtain rfl := Option.some.inj hF
      exact ⟨exit_ne _, rfl, h.sub [0, 1, 2, 5, 6, 7] (by rfl)⟩
  · clear hl23
    intro e a w hq
    cases cr22 with
    | ret r24 =>
      obtain ⟨rfl, hq⟩ := hq
      obtain rfl := Option.some.inj hF
      exact ⟨.inl rfl, hq⟩
    | next s25 =>
      obtain ⟨y26, y27⟩ := s25
      obtain ⟨rfl, h⟩ := hq
      change SatL c [.slot 0 (eqVP p_0), .slot 4 (lpVP (b1 1) 0), .slot 5 (eqVP (b3 0)), .res (Log_e p_0 L_0), .res (lb (b1 1) 23 [bytesCk 32 (List.replicate 32 0)]), .res (Bld_e (b3 0) (some y27))] a w at h
      refine inBlock_at ?_
      show Code.wp Tryd.prog _ _ a w
      obtain ⟨r28, hr28, hF⟩ := bind_some hF
      obtain ⟨r29, hr29, hF⟩ := bind_some hF
      refine regS mixed hn hG h [1, 500, 501] (ov [0] (op_move q0) <| oc [2] [5] Tryd.call88 (strings_Builder_String_ok hr28) ⟨q0, trivial⟩ <| ov [500] (op_lit (xs := [.tmp 16]) (ys := [r28]) _ rfl Tryd.underlying101 Tryd.sizeOf9 Tryd.zeroValue9 rfl rfl (by decide) (by decide) ⟨⟨_, q0, (cells_one (one_str _))⟩, trivial⟩ lens_strC) <| oc [502, 500] [3] Tryd.call62 (digest_Log_Of_ok hr29) ⟨q0, qi, q1, trivial⟩ <| ou [1, 501] 4 (op_store_w Tryd.sizeOf23 q0 q1 (cells_agg _)) .nil) fun _ a w h => ?_
      refine wp_ret ?_
      obtain rfl := Option.some.inj hF
      exact ⟨.inl rfl, ret1 h Tryd.results70 (r_cell 0 1 rfl rfl Tryd.isAgg23 Tryd.sizeOf23 rfl) [2] [(Log_e p_0 r29.2)] rfl rfl rfl⟩

def lamport_Word.b1 (a_1 : List UInt8) (a_2 : Int) (x7 : Int) (x8 : Option O_Log) (x9 : List (List UInt8)) : Option (Flow ((List UInt8) × (Option O_Log)) (Int × (Option O_Log) × (List (List UInt8)))) := (if (decide (x7 < (64 : Int))) = true then ((lamport_Secret x8 a_1 a_2 (IntKind.wrap .i64 (x7.tdiv 2)) (x7.tmod 2)).bind fun r18 => ((lamport_Public r18.2 r18.1).bind fun r19 => (if (0 : Int) ≤ x7 ∧ x7 < 64 then some (.cont (IntKind.wrap .i64 (x7 + 1), r19.2, x9.set x7.toNat r19.1)) else none))) else some (.brk (x7, x8, x9)))
def lamport_Word (L_0 : Option O_Log) (a_1 : List UInt8) (a_2 : Int) : Option ((List UInt8) × (Option O_Log)) := ((loopN (fun s : Int × (Option O_Log) × (List (List UInt8)) => lamport_Word.b1 a_1 a_2 s.1 s.2.1 s.2.2) ((64 - 0 : Int).toNat + 2) (0, L_0, (List.replicate 64 (List.replicate 32 0)))).bind fun cr => match cr with | .ret r => some r | .next (y25, y26, y27) => ((lamport_pair y26 y27).bind fun r28 => some (r28.1, r28.2)))
theorem lamport_Word_ok {p_0 : Value} {L_0 : Option O_Log} {a_1 : List UInt8} {a_2 : Int} {r : (List UInt8) × (Option O_Log)} (hF : lamport_Word L_0 a_1 a_2 = some r) : CallOk Tryd.prog KG 48 [(eqVP p_0), (aggVP [bytesCk 32 a_1]), (intVP .i64 a_2)] [(Log_e p_0 L_0)] (fun _ => [Log_e p_0 r.2]) (aggVP [bytesCk 32 r.1]) := by
  refine CallOk.intro 28 Tryd.func48 rfl Tryd.ntmps48 (Nat.le_of_ble_eq_true rfl) ?_
  intro c a w hG hn h
  unfold lamport_Word at hF
  change SatL c [.slot 0 (eqVP p_0), .slot 1 (aggVP [bytesCk 32 a_1]), .slot 2 (intVP .i64 a_2), .res (Log_e p_0 L_0)] a w at h
  refine regS mixed hn hG h [0, 2, 503, 501, 3, 502, 500] (ob [1] (op_box q0 (cells_agg _)) <| ob [] (op_alloc Tryd.zeroValue23 z23) .nil) fun b1 a w h => ?_
  refine regS mixed hn hG h [0, 1, 2, 3, 501, 4, 5, 6, 500] (ob [] (op_alloc Tryd.zeroValue122 z122) .nil) fun b3 a w h => ?_
  refine wp_seq ?_
  refine regS mixed hn hG h [0, 1, 2, 3, 4, 500, 5, 6, 7, 8] (ov [] (op_move qi) .nil) fun _ a w h => ?_
  refine wp_block ?_
  obtain ⟨cr21, hl22, hF⟩ := bind_some hF
  refine wp_mono (wp_loopN (R := (List UInt8) × (Option O_Log)) (S := Int × (Option O_Log) × (List (List UInt8))) (fun s a w => SatL c [.slot 0 (eqVP p_0), .slot 2 (intVP .i64 a_2), .slot 4 (lpVP (b1 0) 0), .slot 6 (lpVP (b1 1) 0), .slot 7 (lpVP (b3 0) 0), .slot 9 (intVP .i64 s.1), .res (Log_e p_0 s.2.1), .res (lb (b1 0) 23 [bytesCk 32 a_1]), .res (lb (b1 1) 23 [bytesCk 32 (List.replicate 32 0)]), .res (lb (b3 0) 122 [arrCk 64 32 (dC 32) (lens_dC 32) s.2.2])] a w) (fun res e a w => match res with | .next s => e = .exit 0 ∧ SatL c [.slot 0 (eqVP p_0), .slot 6 (lpVP (b1 1) 0), .slot 7 (lpVP (b3 0) 0), .res (Log_e p_0 s.2.1), .res (lb (b1 1) 23 [bytesCk 32 (List.replicate 32 0)]), .res (lb (b3 0) 122 [arrCk 64 32 (dC 32) (lens_dC 32) s.2.2])] a w | .ret r => e = .ret ∧ RetOk Tryd.prog Tryd.f48 c (aggVP [bytesCk 32 r.1]) (fun _ => [Log_e p_0 r.2]) a w) ?_ _ (0, L_0, (List.replicate 64 (List.replicate 32 0))) _ _ _ (h.sub [0, 1, 2, 3, 4, 5, 6, 7, 8, 9] (by rfl)) hl22) ?_
  · clear hl22 hF h
    intro s a w o h hF
    obtain ⟨x7, x8, x9⟩ := s
    change lamport_Word.b1 a_1 a_2 x7 x8 x9 = some o at hF
    unfold lamport_Word.b1 at hF
    change SatL c [.slot 0 (eqVP p_0), .slot 2 (intVP .i64 a_2), .slot 4 (lpVP (b1 0) 0), .slot 6 (lpVP (b1 1) 0), .slot 7 (lpVP (b3 0) 0), .slot 9 (intVP .i64 x7), .res (Log_e p_0 x8), .res (lb (b1 0) 23 [bytesCk 32 a_1]), .res (lb (b1 1) 23 [bytesCk 32 (List.replicate 32 0)]), .res (lb (b3 0) 122 [arrCk 64 32 (dC 32) (lens_dC 32) x9])] a w at h
    refine regS mixed hn hG h [0, 1, 2, 3, 4, 5, 500, 6, 7, 8, 9] (ov [5] (op_bin bin_lss q0 qi) .nil) fun _ a w h => ?_
    refine wp_seq ?_
    refine cnd h hF 6 [0, 1, 2, 3, 4, 5, 7, 8, 9, 10] [0, 1, 2, 3, 4, 5, 7, 8, 9, 10] (fun hb17 hF h => ?_) (fun hb17 hF h => ?_)
    · refine wp_skip ?_
      show Code.wp Tryd.prog _ _ a w
      refine wp_seq ?_
      refine wp_block ?_
      refine regS mixed hn hG h [0, 1, 2, 3, 4, 500, 5, 6, 7, 8, 9] (ov [5] (op_move q0) <| ov [500] (op_assign q0) .nil) fun _ a w h => ?_
      obtain ⟨r18, hr18, hF⟩ := bind_some hF
      obtain ⟨r19, hr19, hF⟩ := bind_some hF
      obtain ⟨hv20, hF⟩ := ite_some hF
      refine reg mixed hn hG h [0, 1, 2, 3, 4, 6, 8, 9, 500, 502] (ov [5] (op_move q0) <| ov [0] (op_move q0) <| ov [0] (op_move q0) <| ov [2, 8] (op_load_w 1 Tryd.isAgg23 Tryd.sizeOf23 q0) <| ov [1] (op_move q0) <| ov [5] (op_move q0) <| ov [500] (op_bin (bin_quo (by decide)) q0 qi) <| ov [5] (op_move q0) <| ov [500] (op_bin (bin_rem (by decide)) q0 qi) <| oc [506, 505, 504, 502, 500] [7] Tryd.call69 (lamport_Secret_ok hr18) ⟨q0, q1, q2, q3, (opt 4 rfl), trivial⟩ <| oc [509, 501] [500] Tryd.call68 (lamport_Public_ok hr19) ⟨q0, q1, trivial⟩ <| ov [4, 512] (op_indexAddr_lb Tryd.underlying122 Tryd.sizeOf23 q0 q1 hv20) <| ou [500, 502] 10 (op_store_lbA (i := x7) [] [] Tryd.sizeOf23 q0 q1 rfl hv20) .nil) fun _ a w h => ?_
      show Code.wp Tryd.prog _ _ a w
      refine reg mixed hn hG h [0, 1, 2, 3, 4, 500, 6, 7, 8, 9] (ov [5] (op_bin bin_add q0 qi) <| od [500] 5 (op_move q0) .nil) fun _ a w h => ?_
      obtain rfl := Option.some.inj hF
      exact ⟨rfl, h.sub [0, 1, 2, 3, 4, 5, 9, 6, 7, 8] (by rfl)⟩
    · refine wp_exit ?_
      obtain rfl := Option.some.inj hF
      exact ⟨exit_ne _, rfl, h.sub [0, 3, 4, 6, 8, 9] (by rfl)⟩
  · clear hl22
    intro e a w hq
    cases cr21 with
    | ret r23 =>
      obtain ⟨rfl, hq⟩ := hq
      obtain rfl := Option.some.inj hF
      exact ⟨.inl rfl, hq⟩
    | next s24 =>
      obtain ⟨y25, y26, y27⟩ := s24
      obtain ⟨rfl, h⟩ := hq
      change SatL c [.slot 0 (eqVP p_0), .slot 6 (lpVP (b1 1) 0), .slot 7 (lpVP (b3 0) 0), .res (Log_e p_0 y26), .res (lb (b1 1) 23 [bytesCk 32 (List.replicate 32 0)]), .res (lb (b3 0) 122 [arrCk 64 32 (dC 32) (lens_dC 32) y27])] a w at h
      refine inBlock_at ?_
      show Code.wp Tryd.prog _ _ a w
      obtain ⟨r28, hr28, hF⟩ := bind_some hF
      refine regS mixed hn hG h [1, 500, 501] (ov [0] (op_move q0) <| ov [2, 5] (op_load_w 1 Tryd.isAgg122 Tryd.sizeOf122 q0) <| oc [501, 500] [3] Tryd.call70 (lamport_pair_ok hr28) ⟨q0, q1, trivial⟩ <| ou [1, 501] 4 (op_store_w Tryd.sizeOf23 q0 q1 (cells_agg _)) .nil) fun _ a w h => ?_
      refine wp_ret ?_
      obtain rfl := Option.some.inj hF
      exact ⟨.inl rfl, ret1 h Tryd.results48 (r_cell 0 1 rfl rfl Tryd.isAgg23 Tryd.sizeOf23 rfl) [2] [(Log_e p_0 r28.2)] rfl rfl rfl⟩

def keys_New.b1 (a_1 : List UInt8) (x9 : Int) (x10 : Option O_Log) (x11 : Option S_keys_Signer) : Option (Flow (S_keys_Signer × (Option O_Log)) (Int × (Option O_Log) × (Option S_keys_Signer))) := (if (decide (x9 < (16 : Int))) = true then ((x11).bind fun s23 => ((lamport_Word x10 a_1 x9).bind fun r26 => (if s23.f_Leaves.length + [r26.1].length ≤ mxl ∧ (s23.f_Leaves.length + [r26.1].length) * 32 ≤ 140737488355328 then some (.cont (IntKind.wrap .i64 (x9 + 1), r26.2, (some ⟨s23.f_Seed, s23.f_Next, s23.f_Leaves ++ [r26.1]⟩))) else none))) else some (.brk (x9, x10, x11)))
def keys_New (L_0 : Option O_Log) (a_1 : List UInt8) : Option (S_keys_Signer × (Option O_Log)) := ((loopN (fun s : Int × (Option O_Log) × (Option S_keys_Signer) => keys_New.b1 a_1 s.1 s.2.1 s.2.2) ((16 - 0 : Int).toNat + 2) (0, L_0, (some ⟨a_1, (0 : Int), []⟩))).bind fun cr => match cr with | .ret r => some r | .next (y33, y34, y35) => ((y35).bind fun s36 => some (s36, y34)))
theorem keys_New_ok {p_0 : Value} {L_0 : Option O_Log} {a_1 : List UInt8} {r : S_keys_Signer × (Option O_Log)} (hF : keys_New L_0 a_1 = some r) : CallOk Tryd.prog KG 12 [(eqVP p_0), (aggVP [bytesCk 32 a_1])] [(Log_e p_0 L_0)] (fun _ => [Log_e p_0 r.2]) (aggVP [bytesCk 32 r.1.f_Seed, one (intVP .i64 r.1.f_Next), one (slVP (dC 32) r.1.f_Leaves)]) := by
  refine CallOk.intro 23 Tryd.func12 rfl Tryd.ntmps12 (Nat.le_of_ble_eq_true rfl) ?_
  intro c a w hG hn h
  unfold keys_New at hF
  change SatL c [.slot 0 (eqVP p_0), .slot 1 (aggVP [bytesCk 32 a_1]), .res (Log_e p_0 L_0)] a w at h
  refine regS mixed hn hG h [0, 503, 501, 2, 502, 500] (ob [1] (op_box q0 (cells_agg _)) <| ob [] (op_alloc Tryd.zeroValue27 zo27) .nil) fun b1 a w h => ?_
  refine regS mixed hn hG h [0, 1, 2, 502, 3, 4, 5, 500] (ov [1, 4] (op_load_w 1 Tryd.isAgg23 Tryd.sizeOf23 q0) <| ov [500] (op_build [(0, .tmp 7)] rfl bu27 zo27 ⟨[], [bytesCk 32 (List.replicate 32 0)], [one (intVP .i64 (0 : Int)), one (eqVP (.slice none 0 0))], [bytesCk 32 a_1], _, rfl, rfl, rfl, q0, (cells_agg _), rfl⟩) <| ob [] (op_alloc Tryd.zeroValue27 zo27) <| og [501, 502] [500] [.res 2 100000 (fun v1_ _ => (lb (v1_) 27 [bytesCk 32 a_1, one (intVP .i64 (0 : Int)), one (eqVP (.slice none 0 0))]))] (GOk.plain (op_store_w Tryd.sizeOf27 q0 q1 (cells_agg _)) rfl) .nil) fun b3 a w h => ?_
  refine wp_seq ?_
  refine regS mixed hn hG h [0, 1, 2, 3, 500, 4, 5, 6, 7] (ov [] (op_move qi) .nil) fun _ a w h => ?_
  refine wp_block ?_
  replace h := h.nilacc 23 32 (dC 32)
  replace h := h.unsep 8 9 rfl rfl (by decide)
  replace h := h.conv 8 rfl (R' := Sgn_e (b3 2) (some ⟨a_1, (0 : Int), []⟩)) (Sgn_packo (v2 := (.slice none 0 0)) (o := (some ⟨a_1, (0 : Int), []⟩)))
  replace h := h.slotc 3 rfl (fun _ _ h => lp_eqv h)
  replace h := h.sub [0, 1, 2, 3, 4, 5, 6, 7, 8] (by rfl)
  change SatL c [.slot 0 (eqVP p_0), .slot 3 (lpVP (b1 0) 0), .slot 4 (lpVP (b1 1) 0), .slot 5 (eqVP (b3 2)), .slot 9 (intVP .i64 0), .res (Log_e p_0 L_0), .res (lb (b1 0) 23 [bytesCk 32 a_1]), .res (lb (b1 1) 27 [bytesCk 32 (List.replicate 32 0), one (intVP .i64 (0 : Int)), one (eqVP (.slice none 0 0))]), .res (Sgn_e (b3 2) (some ⟨a_1, (0 : Int), []⟩))] a w at h
  obtain ⟨cr29, hl30, hF⟩ := bind_some hF
  refine wp_mono (wp_loopN (R := S_keys_Signer × (Option O_Log)) (S := Int × (Option O_Log) × (Option S_keys_Signer)) (fun s a w => SatL c [.slot 0 (eqVP p_0), .slot 3 (lpVP (b1 0) 0), .slot 4 (lpVP (b1 1) 0), .slot 5 (eqVP (b3 2)), .slot 9 (intVP .i64 s.1), .res (Log_e p_0 s.2.1), .res (lb (b1 0) 23 [bytesCk 32 a_1]), .res (lb (b1 1) 27 [bytesCk 32 (List.replicate 32 0), one (intVP .i64 (0 : Int)), one (eqVP (.slice none 0 0))]), .res (Sgn_e (b3 2) s.2.2)] a w) (fun res e a w => match res with | .next s => e = .exit 0 ∧ SatL c [.slot 4 (lpVP (b1 1) 0), .slot 5 (eqVP (b3 2)), .res (Log_e p_0 s.2.1), .res (lb (b1 1) 27 [bytesCk 32 (List.replicate 32 0), one (intVP .i64 (0 : Int)), one (eqVP (.slice none 0 0))]), .res (Sgn_e (b3 2) s.2.2)] a w | .ret r => e = .ret ∧ RetOk Tryd.prog Tryd.f12 c (aggVP [bytesCk 32 r.1.f_Seed, one (intVP .i64 r.1.f_Next), one (slVP (dC 32) r.1.f_Leaves)]) (fun _ => [Log_e p_0 r.2]) a w) ?_ _ (0, L_0, (some ⟨a_1, (0 : Int), []⟩)) _ _ _ (h.sub [0, 1, 2, 3, 4, 5, 6, 7, 8] (by rfl)) hl30) ?_
  · clear hl30 hF h
    intro s a w o h hF
    obtain ⟨x9, x10, x11⟩ := s
    change keys_New.b1 a_1 x9 x10 x11 = some o at hF
    unfold keys_New.b1 at hF
    change SatL c [.slot 0 (eqVP p_0), .slot 3 (lpVP (b1 0) 0), .slot 4 (lpVP (b1 1) 0), .slot 5 (eqVP (b3 2)), .slot 9 (intVP .i64 x9), .res (Log_e p_0 x10), .res (lb (b1 0) 23 [bytesCk 32 a_1]), .res (lb (b1 1) 27 [bytesCk 32 (List.replicate 32 0), one (intVP .i64 (0 : Int)), one (eqVP (.slice none 0 0))]), .res (Sgn_e (b3 2) x11)] a w at h
    refine regS mixed hn hG h [0, 1, 2, 3, 4, 500, 5, 6, 7, 8] (ov [4] (op_bin bin_lss q0 qi) .nil) fun _ a w h => ?_
    refine wp_seq ?_
    refine cnd h hF 5 [0, 1, 2, 3, 4, 6, 7, 8, 9] [0, 1, 2, 3, 4, 6, 7, 8, 9] (fun hb22 hF h => ?_) (fun hb22 hF h => ?_)
    · refine wp_skip ?_
      show Code.wp Tryd.prog _ _ a w
      refine wp_seq ?_
      refine wp_block ?_
      refine regS mixed hn hG h [0, 1, 2, 3, 500, 4, 5, 6, 7, 8] (ov [4] (op_move q0) <| ov [500] (op_assign q0) .nil) fun _ a w h => ?_
      obtain ⟨s23, hs24, hF⟩ := bind_some hF
      rw [hs24] at h
      obtain ⟨h25, h⟩ := h.ex 9 rfl
      have hp := h.isp 9 rfl (fun Φ f w q => Sgn_lp Φ f w q)
      replace h := h.slotc 3 rfl (V' := lpVP (b3 2) 0) (fun _ _ h => eq_lp h hp)
      replace h := h.sep (R := lb (b3 2) 27 [bytesCk 32 s23.f_Seed, one (intVP .i64 s23.f_Next), one (eqVP h25)]) (S := (acc h25 23 32 (dC 32) s23.f_Leaves)) 9 rfl
      replace h := h.sub [0, 1, 2, 3, 4, 5, 6, 7, 8, 9, 10] (by rfl)
      change SatL c [.slot 0 (eqVP p_0), .slot 3 (lpVP (b1 0) 0), .slot 4 (lpVP (b1 1) 0), .slot 5 (lpVP (b3 2) 0), .slot 6 (intVP .i64 x9), .slot 9 (intVP .i64 x9), .res (Log_e p_0 x10), .res (lb (b1 0) 23 [bytesCk 32 a_1]), .res (lb (b1 1) 27 [bytesCk 32 (List.replicate 32 0), one (intVP .i64 (0 : Int)), one (eqVP (.slice none 0 0))]), .res (lb (b3 2) 27 [bytesCk 32 s23.f_Seed, one (intVP .i64 s23.f_Next), one (eqVP h25)]), .res (acc h25 23 32 (dC 32) s23.f_Leaves)] a w at h
      replace h := h.nilacc 23 32 (dC 32)
      replace h := h.sub [0, 1, 2, 3, 4, 5, 6, 7, 8, 9, 10, 11] (by rfl)
      change SatL c [.slot 0 (eqVP p_0), .slot 3 (lpVP (b1 0) 0), .slot 4 (lpVP (b1 1) 0), .slot 5 (lpVP (b3 2) 0), .slot 6 (intVP .i64 x9), .slot 9 (intVP .i64 x9), .res (Log_e p_0 x10), .res (lb (b1 0) 23 [bytesCk 32 a_1]), .res (lb (b1 1) 27 [bytesCk 32 (List.replicate 32 0), one (intVP .i64 (0 : Int)), one (eqVP (.slice none 0 0))]), .res (lb (b3 2) 27 [bytesCk 32 s23.f_Seed, one (intVP .i64 s23.f_Next), one (eqVP h25)]), .res (acc h25 23 32 (dC 32) s23.f_Leaves), .res (acc (.slice none 0 0) 23 32 (dC 32) ([] : List (List UInt8)))] a w at h
      obtain ⟨r26, hr26, hF⟩ := bind_some hF
      obtain ⟨hv27, hF⟩ := ite_some hF
      refine reg mixed hn hG h [0, 1, 2, 3, 5, 7, 8, 500, 505, 502] (ov [3] (op_fieldAddr_lbm (p := (b3 2)) (n := 1) 0 33 Tryd.underlying27 rfl Tryd.sizeOf24 (by decide) q0 rfl) <| ov [500, 9] (op_load_lb1 [bytesCk 32 s23.f_Seed, one (intVP .i64 s23.f_Next)] [] 1 Tryd.isAgg24 q0 rfl rfl) <| ov [0] (op_move q0) <| ov [1, 7] (op_load_w 1 Tryd.isAgg23 Tryd.sizeOf23 q0) <| ov [4] (op_move q0) <| oc [502, 501, 500] [6] Tryd.call48 (lamport_Word_ok hr26) ⟨q0, q1, q2, trivial⟩ <| ov [501] (op_lit (xs := [.tmp 17]) (ys := [r26.1]) _ rfl Tryd.underlying24 Tryd.sizeOf23 Tryd.zeroValue23 rfl rfl (by decide) (by decide) ⟨⟨_, q0, (cells_agg _)⟩, trivial⟩ (lens_dC 32)) <| og [506, 500] [10] [.slot 19 7 100000 (fun v1_ _ => (eqVP v1_)), .res 7 100000 (fun v1_ _ => (acc (v1_) 23 32 (dC 32) (s23.f_Leaves ++ [r26.1])))] (GOk.plain (op_append (i := Tryd.t23) Tryd.underlying24 Tryd.type23 rfl (lens_dC 32) (by decide) rfl q0 q1 hv27) rfl) <| ov [3] (op_fieldAddr_lbm (p := (b3 2)) (n := 1) 0 33 Tryd.underlying27 rfl Tryd.sizeOf24 (by decide) q0 rfl) <| og [500, 502, 501] [9] [.res 7 100000 (fun v1_ _ => (lb (b3 2) 27 [bytesCk 32 s23.f_Seed, one (intVP .i64 s23.f_Next), one (eqVP (v1_))]))] (fun {β} => (GOk.plain (op_store_lb [bytesCk 32 s23.f_Seed, one (intVP .i64 s23.f_Next)] [one (eqVP h25)] [] [one (eqVP ((β 7)))] Tryd.sizeOf24 q0 (opone 1 2 rfl rfl acc_one) (cells_h _) rfl rfl rfl) rfl)) .nil) fun b28 a w h => ?_
      replace h := h.unsep 7 9 rfl rfl (by decide)
      replace h := h.conv 7 rfl (R' := Sgn_e (b3 2) (some ⟨s23.f_Seed, s23.f_Next, s23.f_Leaves ++ [r26.1]⟩)) (Sgn_packo (v2 := (b28 7)) (o := (some ⟨s23.f_Seed, s23.f_Next, s23.f_Leaves ++ [r26.1]⟩)))
      replace h := h.slotc 3 rfl (fun _ _ h => lp_eqv h)
      replace h := h.sub [0, 1, 2, 3, 4, 5, 6, 8, 7] (by rfl)
      change SatL c [.slot 0 (eqVP p_0), .slot 3 (lpVP (b1 0) 0), .slot 4 (lpVP (b1 1) 0), .slot 5 (eqVP (b3 2)), .slot 9 (intVP .i64 x9), .res (lb (b1 0) 23 [bytesCk 32 a_1]), .res (lb (b1 1) 27 [bytesCk 32 (List.replicate 32 0), one (intVP .i64 (0 : Int)), one (eqVP (.slice none 0 0))]), .res (Log_e p_0 r26.2), .res (Sgn_e (b3 2) (some ⟨s23.f_Seed, s23.f_Next, s23.f_Leaves ++ [r26.1]⟩))] a w at h
      show Code.wp Tryd.prog _ _ a w
      refine reg mixed hn hG h [0, 1, 2, 3, 500, 5, 6, 7, 8] (ov [4] (op_bin bin_add q0 qi) <| od [500] 4 (op_move q0) .nil) fun _ a w h => ?_
      obtain rfl := Option.some.inj hF
      exact ⟨rfl, h.sub [0, 1, 2, 3, 4, 7, 5, 6, 8] (by rfl)⟩
    · refine wp_exit ?_
      obtain rfl := Option.some.inj hF
      exact ⟨exit_ne _, rfl, h.sub [2, 3, 5, 7, 8] (by rfl)⟩
  · clear hl30
    intro e a w hq
    cases cr29 with
    | ret r31 =>
      obtain ⟨rfl, hq⟩ := hq
      obtain rfl := Option.some.inj hF
      exact ⟨.inl rfl, hq⟩
    | next s32 =>
      obtain ⟨y33, y34, y35⟩ := s32
      obtain ⟨rfl, h⟩ := hq
      change SatL c [.slot 4 (lpVP (b1 1) 0), .slot 5 (eqVP (b3 2)), .res (Log_e p_0 y34), .res (lb (b1 1) 27 [bytesCk 32 (List.replicate 32 0), one (intVP .i64 (0 : Int)), one (eqVP (.slice none 0 0))]), .res (Sgn_e (b3 2) y35)] a w at h
      refine inBlock_at ?_
      show Code.wp Tryd.prog _ _ a w
      obtain ⟨s36, hs37, hF⟩ := bind_some hF
      rw [hs37] at h
      obtain ⟨h38, h⟩ := h.ex 4 rfl
      have hp := h.isp 4 rfl (fun Φ f w q => Sgn_lp Φ f w q)
      replace h := h.slotc 1 rfl (V' := lpVP (b3 2) 0) (fun _ _ h => eq_lp h hp)
      replace h := h.sep (R := lb (b3 2) 27 [bytesCk 32 s36.f_Seed, one (intVP .i64 s36.f_Next), one (eqVP h38)]) (S := (acc h38 23 32 (dC 32) s36.f_Leaves)) 4 rfl
      replace h := h.sub [0, 1, 2, 3, 4, 5] (by rfl)
      change SatL c [.slot 4 (lpVP (b1 1) 0), .slot 5 (lpVP (b3 2) 0), .res (Log_e p_0 y34), .res (lb (b1 1) 27 [bytesCk 32 (List.replicate 32 0), one (intVP .i64 (0 : Int)), one (eqVP (.slice none 0 0))]), .res (lb (b3 2) 27 [bytesCk 32 s36.f_Seed, one (intVP .i64 s36.f_Next), one (eqVP h38)]), .res (acc h38 23 32 (dC 32) s36.f_Leaves)] a w at h
      replace h := h.unsep 4 5 rfl rfl (by decide)
      replace h := h.conv 4 rfl (settle (pre := [bytesCk 32 s36.f_Seed, one (intVP .i64 s36.f_Next)]) (post := []))
      replace h := h.sep 4 rfl
      replace h := h.sub [0, 1, 2, 3, 4] (by rfl)
      change SatL c [.slot 4 (lpVP (b1 1) 0), .slot 5 (lpVP (b3 2) 0), .res (Log_e p_0 y34), .res (lb (b1 1) 27 [bytesCk 32 (List.replicate 32 0), one (intVP .i64 (0 : Int)), one (eqVP (.slice none 0 0))]), .res (lb (b3 2) 27 [bytesCk 32 s36.f_Seed, one (intVP .i64 s36.f_Next), one (slVP (dC 32) s36.f_Leaves)])] a w at h
      refine regS mixed hn hG h [0, 2, 500] (ov [1, 4] (op_load_w 1 Tryd.isAgg27 Tryd.sizeOf27 q0) <| ou [0, 500] 3 (op_store_w Tryd.sizeOf27 q0 q1 (cells_agg _)) .nil) fun _ a w h => ?_
      refine wp_ret ?_
      obtain rfl := Option.some.inj hF
      exact ⟨.inl rfl, ret1 h Tryd.results12 (r_cell 0 2 rfl rfl Tryd.isAgg27 Tryd.sizeOf27 rfl) [1] [(Log_e p_0 y34)] rfl rfl rfl⟩

def ref04_New : Option O_RLog := some ⟨[], []⟩
theorem ref04_New_ok {r : O_RLog} (hF : ref04_New = some r) : CallOk Tryd.prog KG 19 [] [] (fun v => [RLog_e v (some r)]) anyVP := by
  refine CallOk.intro 4 Tryd.func19 rfl Tryd.ntmps19 (Nat.le_of_ble_eq_true rfl) ?_
  intro c a w hG hn h
  unfold ref04_New at hF
  change SatL c [] a w at h
  refine regS mixed hn hG h [] (ov [] (op_assign (opc (ec _))) .nil) fun _ a w h => ?_
  refine regS mixed hn hG h [500, 504, 501] (og [] [] [.slot 1 0 100000 (fun v1_ _ => (eqVP (v1_))), .res 0 100000 (fun v1_ _ => (mapR (v1_) arrK (fun l => l.length = 32) (fun u y => acc u 9 1 strC y) []))] (GOk.plain op_makeMap rfl) <| og [501, 500] [] [.slot 2 0 100000 (fun v1_ _ => (aggVP [one (eqVP (.slice none 0 0)), one (eqVP (v1_))]))] (fun {β} => (GOk.plain (op_build [(1, .tmp 1)] rfl bu103 zo103 ⟨[one (eqVP (.slice none 0 0))], [one (eqVP (.map none))], [], [one (eqVP ((β 0)))], _, rfl, rfl, rfl, (opone 0 1 rfl rfl map_one), (cells_h _), rfl⟩) rfl)) <| og [500] [] [.slot 3 2 100000 (fun v1_ _ => (lpVP v1_ 0)), .res 0 2 (fun v1_ v2_ => (lb (v2_) 103 [one (eqVP (.slice none 0 0)), one (eqVP (v1_))]))] (fun {β} => (GOk.plain (op_box (L := [one (eqVP (.slice none 0 0)), one (eqVP ((β 0)))]) q0 (cells_agg _)) rfl)) <| og [501] [] [.slot 0 2 100000 (fun v1_ _ => (lpVP v1_ 0))] (fun {β} => (GOk.plain (op_assign (V := (lpVP (β 2) 0)) q0) rfl)) .nil) fun b1 a w h => ?_
  refine wp_ret ?_
  replace h := h.nilacc 9 1 strC
  replace h := h.unsep 3 1 rfl rfl (by decide)
  replace h := h.unsep 2 3 rfl rfl (by decide)
  replace h := h.conv 2 rfl (R' := RLog_e (b1 2) (some ⟨[], []⟩)) (RLog_packo (v0 := (.slice none 0 0)) (v1 := (b1 0)) (o := (some ⟨[], []⟩)))
  replace h := h.slotc 0 rfl (fun _ _ h => lp_eqv h)
  replace h := h.sub [0, 2] (by rfl)
  change SatL c [.slot 0 (eqVP (b1 2)), .res (RLog_e (b1 2) (some ⟨[], []⟩))] a w at h
  obtain rfl := Option.some.inj hF
  exact ⟨.inl rfl, ret1v (p := (b1 2)) h Tryd.results19 (r_tmp 0 rfl) [1] _ rfl rfl rfl⟩

def ref03_Big.b1 (x4 : Int) (x5 : Int) (x6 : List UInt8) : Option (Flow (List UInt8) (Int × Int × (List UInt8))) := (if (decide ((0 : Int) ≤ x5)) = true then (if (0 : Int) ≤ x5 ∧ x5 < 8 then some (.cont (IntKind.wrap .u64 (x4.tdiv 256), IntKind.wrap .i64 (x5 - 1), x6.set x5.toNat (u8of (IntKind.wrap .u8 (x4.tmod 256))))) else none) else some (.brk (x4, x5, x6)))
def ref03_Big (a_0 : Int) (a_1 : Int) : Option (List UInt8) := ((loopN (fun s : Int × Int × (List UInt8) => ref03_Big.b1 s.1 s.2.1 s.2.2) (((IntKind.wrap .i64 (a_1 - 1)) - 0 : Int).toNat + 2) (a_0, IntKind.wrap .i64 (a_1 - 1), (List.replicate 8 0))).bind fun cr => match cr with | .ret r => some r | .next (y18, y19, y20) => (if (0 : Int) ≤ 0 ∧ (0 : Int) ≤ a_1 ∧ a_1 ≤ 8 ∧ (0 : Int) < 8 then (if (a_1 : Int).toNat - (0 : Int).toNat ≤ 8 then some (y20.take ((a_1 : Int).toNat - (0 : Int).toNat)) else none) else none))
theorem ref03_Big_ok {a_0 : Int} {a_1 : Int} {r : (List UInt8)} (hF : ref03_Big a_0 a_1 = some r) : CallOk Tryd.prog KG 60 [(intVP .u64 a_0), (intVP .i64 a_1)] [] (fun _ => []) (strVP r) := by
  refine CallOk.intro 23 Tryd.func60 rfl Tryd.ntmps60 (Nat.le_of_ble_eq_true rfl) ?_
  intro c a w hG hn h
  unfold ref03_Big at hF
  change SatL c [.slot 0 (intVP .u64 a_0), .slot 1 (intVP .i64 a_1)] a w at h
  refine regS mixed hn hG h [0, 1] (ov [] (op_assign (opc (sc _ (by decide)))) .nil) fun _ a w h => ?_
  refine regS mixed hn hG h [0, 1, 501, 500] (ob [] (op_alloc Tryd.zeroValue135 z135) .nil) fun b1 a w h => ?_
  refine wp_seq ?_
  refine regS mixed hn hG h [0, 1, 2, 500, 3] (ov [1] (op_move q0) <| ov [500] (op_bin bin_sub q0 qi) <| ov [500] (op_assign q0) .nil) fun _ a w h => ?_
  refine wp_block ?_
  obtain ⟨cr14, hl15, hF⟩ := bind_some hF
  refine wp_mono (wp_loopN (R := (List UInt8)) (S := Int × Int × (List UInt8)) (fun s a w => SatL c [.slot 0 (intVP .u64 s.1), .slot 1 (intVP .i64 a_1), .slot 5 (lpVP (b1 0) 0), .slot 6 (intVP .i64 s.2.1), .res (lb (b1 0) 135 [bytesCk 8 s.2.2])] a w) (fun res e a w => match res with | .next s => e = .exit 0 ∧ SatL c [.slot 1 (intVP .i64 a_1), .slot 5 (lpVP (b1 0) 0), .res (lb (b1 0) 135 [bytesCk 8 s.2.2])] a w | .ret r => e = .ret ∧ RetOk Tryd.prog Tryd.f60 c (strVP r) (fun _ => []) a w) ?_ _ (a_0, IntKind.wrap .i64 (a_1 - 1), (List.replicate 8 0)) _ _ _ (h.sub [0, 1, 2, 3, 4] (by rfl)) hl15) ?_
  · clear hl15 hF h
    intro s a w o h hF
    obtain ⟨x4, x5, x6⟩ := s
    change ref03_Big.b1 x4 x5 x6 = some o at hF
    unfold ref03_Big.b1 at hF
    change SatL c [.slot 0 (intVP .u64 x4), .slot 1 (intVP .i64 a_1), .slot 5 (lpVP (b1 0) 0), .slot 6 (intVP .i64 x5), .res (lb (b1 0) 135 [bytesCk 8 x6])] a w at h
    refine wp_seq ?_
    refine regS mixed hn hG h [0, 1, 2, 3, 500, 4] (ov [3] (op_move q0) <| ov [500] (op_bin bin_geq q0 qi) .nil) fun _ a w h => ?_
    refine cnd h hF 4 [0, 1, 2, 3, 5] [0, 1, 2, 3, 5] (fun hb12 hF h => ?_) (fun hb12 hF h => ?_)
    · refine wp_skip ?_
      show Code.wp Tryd.prog _ _ a w
      refine wp_seq ?_
      refine wp_block ?_
      obtain ⟨hv13, hF⟩ := ite_some hF
      refine regS mixed hn hG h [0, 1, 2, 3, 500] (ov [3] (op_move q0) <| ov [0] (op_move q0) <| ov [500] (op_bin (bin_rem (by decide)) q0 qi) <| ov [500] (op_convert_int Tryd.underlying114 Tryd.underlying5 q0) <| ov [2, 503] (op_indexAddr_lb Tryd.underlying135 Tryd.sizeOf5 q0 q1 hv13) <| ou [500, 501] 4 (op_store_lbB (i := x5) [] [] Tryd.sizeOf5 q0 q1 rfl hv13) .nil) fun _ a w h => ?_
      refine reg mixed hn hG h [500, 1, 2, 3, 4] (ov [0] (op_move q0) <| ov [500] (op_bin (bin_quo (by decide)) q0 qi) <| od [500] 0 (op_assign q0) .nil) fun _ a w h => ?_
      show Code.wp Tryd.prog _ _ a w
      refine reg mixed hn hG h [0, 1, 2, 500, 4] (ov [3] (op_move q0) <| ov [500] (op_bin bin_sub q0 qi) <| od [500] 3 (op_assign q0) .nil) fun _ a w h => ?_
      obtain rfl := Option.some.inj hF
      exact ⟨rfl, h.sub [0, 1, 2, 3, 4] (by rfl)⟩
    · refine wp_exit ?_
      obtain rfl := Option.some.inj hF
      exact ⟨exit_ne _, rfl, h.sub [1, 2, 4] (by rfl)⟩
  · clear hl15
    intro e a w hq
    cases cr14 with
    | ret r16 =>
      obtain ⟨rfl, hq⟩ := hq
      obtain rfl := Option.some.inj hF
      exact ⟨.inl rfl, hq⟩
    | next s17 =>
      obtain ⟨y18, y19, y20⟩ := s17
      obtain ⟨rfl, h⟩ := hq
      change SatL c [.slot 1 (intVP .i64 a_1), .slot 5 (lpVP (b1 0) 0), .res (lb (b1 0) 135 [bytesCk 8 y20])] a w at h
      refine inBlock_at ?_
      show Code.wp Tryd.prog _ _ a w
      obtain ⟨hv21, hF⟩ := ite_some hF
      obtain ⟨hv22, hF⟩ := ite_some hF
      refine regS mixed hn hG h [500] (ov [0] (op_move q0) <| ov [1, 500] (op_slice_lb (a := 0) (b := a_1) Tryd.underlying135 Tryd.sizeOf5 q0 rfl ⟨_, q1⟩ hv21) <| ov [500, 2] (op_str_lsl [] [] 1 Tryd.underlying129 Tryd.underlying5 Tryd.underlying9 q0 rfl rfl hv22 (by decide)) <| ov [500] (op_assign q0) .nil) fun _ a w h => ?_
      refine wp_ret ?_
      obtain rfl := Option.some.inj hF
      exact ⟨.inl rfl, ret1 h Tryd.results60 (r_tmp 0 rfl) [] [] rfl rfl rfl⟩

def ref03_Text (a_0 : List UInt8) : Option (List UInt8) := ((ref03_Big (IntKind.wrap .u64 (a_0.length : Int)) 4).bind fun r1 => (if r1.length + a_0.length ≤ mxl then some (r1 ++ a_0) else none))
theorem ref03_Text_ok {a_0 : List UInt8} {r : (List UInt8)} (hF : ref03_Text a_0 = some r) : CallOk Tryd.prog KG 89 [(strVP a_0)] [] (fun _ => []) (strVP r) := by
  refine CallOk.intro 9 Tryd.func89 rfl Tryd.ntmps89 (Nat.le_of_ble_eq_true rfl) ?_
  intro c a w hG hn h
  unfold ref03_Text at hF
  change SatL c [.slot 0 (strVP a_0)] a w at h
  refine regS mixed hn hG h [0] (ov [] (op_assign (opc (sc _ (by decide)))) .nil) fun _ a w h => ?_
  obtain ⟨r1, hr1, hF⟩ := bind_some hF
  obtain ⟨hv2, hF⟩ := ite_some hF
  refine regS mixed hn hG h [500] (ov [0] (op_move q0) <| ov [500] (op_len_str Tryd.underlying9 q0) <| ov [500] (op_convert_int Tryd.underlying3 Tryd.underlying114 q0) <| oc [500] [] Tryd.call60 (ref03_Big_ok hr1) ⟨q0, qi, trivial⟩ <| ov [0] (op_move q0) <| ov [501, 500] (op_bin (bin_sadd hv2) q0 q1) <| ov [500] (op_assign q0) .nil) fun _ a w h => ?_
  refine wp_ret ?_
  obtain rfl := Option.some.inj hF
  exact ⟨.inl rfl, ret1 h Tryd.results89 (r_tmp 0 rfl) [] [] rfl rfl rfl⟩

def ref04_Input.b1 (a_1 : List (List UInt8)) (x5 : List UInt8) (x6 : Int) : Option (Flow (List UInt8) ((List UInt8) × Int)) := (if (decide (x6 < (a_1.length : Int))) = true then (if (0 : Int) ≤ x6 ∧ x6 < a_1.length then ((ref03_Text (a_1.getD x6.toNat default)).bind fun r15 => (if x5.length + r15.length ≤ mxl then some (.cont (x5 ++ r15, IntKind.wrap .i64 (x6 + 1))) else none)) else none) else some (.brk (x5, x6)))
def ref04_Input (a_0 : Int) (a_1 : List (List UInt8)) : Option (List UInt8) := ((loopN (fun s : (List UInt8) × Int => ref04_Input.b1 a_1 s.1 s.2) (((a_1.length : Int) - 0 : Int).toNat + 2) ([u8of a_0], 0)).bind fun cr => match cr with | .ret r => some r | .next (y21, y22) => some y21)
theorem ref04_Input_ok {a_0 : Int} {a_1 : List (List UInt8)} {r : (List UInt8)} (hF : ref04_Input a_0 a_1 = some r) : CallOk Tryd.prog KG 77 [(intVP .u8 a_0), (slVP strC a_1)] [] (fun _ => []) (strVP r) := by
  refine CallOk.intro 23 Tryd.func77 rfl Tryd.ntmps77 (Nat.le_of_ble_eq_true rfl) ?_
  intro c a w hG hn h
  unfold ref04_Input at hF
  change SatL c [.slot 0 (intVP .u8 a_0), .slot 1 (slVP strC a_1)] a w at h
  refine regS mixed hn hG h [0, 1] (ov [] (op_assign (opc (sc _ (by decide)))) .nil) fun _ a w h => ?_
  refine regS mixed hn hG h [1, 500] (ov [0] (op_move q0) <| ov [500] (op_lit (xs := [.tmp 8]) (ys := [u8of a_0]) _ rfl Tryd.underlying129 Tryd.sizeOf5 Tryd.zeroValue5 rfl rfl (by decide) (by decide) ⟨⟨_, q0, (cells_u8 _)⟩, trivial⟩ lens_bC) <| ov [500] (op_conv_sl_str Tryd.underlying129 Tryd.underlying5 Tryd.underlying9 q0) <| ov [500] (op_assign q0) .nil) fun _ a w h => ?_
  refine wp_seq ?_
  refine regS mixed hn hG h [1, 502, 501, 500] (ov [0] (op_move q0) <| ov [500] (op_len_sl Tryd.underlying101 q0) <| ov [] (op_move qi) .nil) fun _ a w h => ?_
  refine wp_block ?_
  obtain ⟨cr17, hl18, hF⟩ := bind_some hF
  refine wp_mono (wp_loopN (R := (List UInt8)) (S := (List UInt8) × Int) (fun s a w => SatL c [.slot 5 (strVP s.1), .slot 11 (slVP strC a_1), .slot 12 (intVP .i64 (a_1.length : Int)), .slot 13 (intVP .i64 s.2)] a w) (fun res e a w => match res with | .next s => e = .exit 0 ∧ SatL c [.slot 5 (strVP s.1)] a w | .ret r => e = .ret ∧ RetOk Tryd.prog Tryd.f77 c (strVP r) (fun _ => []) a w) ?_ _ ([u8of a_0], 0) _ _ _ (h.sub [0, 1, 2, 3] (by rfl)) hl18) ?_
  · clear hl18 hF h
    intro s a w o h hF
    obtain ⟨x5, x6⟩ := s
    change ref04_Input.b1 a_1 x5 x6 = some o at hF
    unfold ref04_Input.b1 at hF
    change SatL c [.slot 5 (strVP x5), .slot 11 (slVP strC a_1), .slot 12 (intVP .i64 (a_1.length : Int)), .slot 13 (intVP .i64 x6)] a w at h
    refine regS mixed hn hG h [0, 1, 2, 3, 500] (ov [3, 2] (op_bin bin_lss q0 q1) .nil) fun _ a w h => ?_
    refine wp_seq ?_
    refine cnd h hF 4 [0, 1, 2, 3] [0, 1, 2, 3] (fun hb13 hF h => ?_) (fun hb13 hF h => ?_)
    · refine wp_skip ?_
      show Code.wp Tryd.prog _ _ a w
      refine wp_seq ?_
      refine wp_block ?_
      obtain ⟨hv14, hF⟩ := ite_some hF
      refine regS mixed hn hG h [0, 500, 1, 2, 3] (ov [1, 3] (op_indexAddr_sl Tryd.underlying101 Tryd.sizeOf9 lens_strC q0 q1 hv14) <| ov [500] (op_load_pp1 [] Tryd.isAgg9 q0) <| ov [500] (op_assign q0) .nil) fun _ a w h => ?_
      obtain ⟨r15, hr15, hF⟩ := bind_some hF
      obtain ⟨hv16, hF⟩ := ite_some hF
      refine reg mixed hn hG h [500, 2, 3, 4] (ov [0] (op_move q0) <| ov [1] (op_move q0) <| oc [500] [] Tryd.call89 (ref03_Text_ok hr15) ⟨q0, trivial⟩ <| ov [502, 500] (op_bin (bin_sadd hv16) q0 q1) <| od [500] 0 (op_assign q0) .nil) fun _ a w h => ?_
      show Code.wp Tryd.prog _ _ a w
      refine reg mixed hn hG h [0, 1, 2, 500] (ov [3] (op_bin bin_add q0 qi) <| od [500] 3 (op_move q0) .nil) fun _ a w h => ?_
      obtain rfl := Option.some.inj hF
      exact ⟨rfl, h.sub [0, 1, 2, 3] (by rfl)⟩
    · refine wp_exit ?_
      obtain rfl := Option.some.inj hF
      exact ⟨exit_ne _, rfl, h.sub [0] (by rfl)⟩
  · clear hl18
    intro e a w hq
    cases cr17 with
    | ret r19 =>
      obtain ⟨rfl, hq⟩ := hq
      obtain rfl := Option.some.inj hF
      exact ⟨.inl rfl, hq⟩
    | next s20 =>
      obtain ⟨y21, y22⟩ := s20
      obtain ⟨rfl, h⟩ := hq
      change SatL c [.slot 5 (strVP y21)] a w at h
      refine inBlock_at ?_
      show Code.wp Tryd.prog _ _ a w
      refine regS mixed hn hG h [500] (ov [0] (op_move q0) <| ov [500] (op_assign q0) .nil) fun _ a w h => ?_
      refine wp_ret ?_
      obtain rfl := Option.some.inj hF
      exact ⟨.inl rfl, ret1 h Tryd.results77 (r_tmp 0 rfl) [] [] rfl rfl rfl⟩

def ref01_constants : Option (List Int) := some ([1116352408, 1899447441, 3049323471, 3921009573, 961987163, 1508970993, 2453635748, 2870763221, 3624381080, 310598401, 607225278, 1426881987, 1925078388, 2162078206, 2614888103, 3248222580, 3835390401, 4022224774, 264347078, 604807628, 770255983, 1249150122, 1555081692, 1996064986, 2554220882, 2821834349, 2952996808, 3210313671, 3336571891, 3584528711, 113926993, 338241895, 666307205, 773529912, 1294757372, 1396182291, 1695183700, 1986661051, 2177026350, 2456956037, 2730485921, 2820302411, 3259730800, 3345764771, 3516065817, 3600352804, 4094571909, 275423344, 430227734, 506948616, 659060556, 883997877, 958139571, 1322822218, 1537002063, 1747873779, 1955562222, 2024104815, 2227730452, 2361852424, 2428436474, 2756734187, 3204031479, 3329325298] ++ List.replicate (64 - 64) 0)
theorem ref01_constants_ok {r : (List Int)} (hF : ref01_constants = some r) : CallOk Tryd.prog KG 105 [] [] (fun _ => []) (aggVP [intsCk .u32 64 r]) := by
  refine CallOk.intro 2 Tryd.func105 rfl Tryd.ntmps105 (Nat.le_of_ble_eq_true rfl) ?_
  intro c a w hG hn h
  unfold ref01_constants at hF
  change SatL c [] a w at h
  refine regS mixed hn hG h [501, 500] (ob [] (op_alloc Tryd.zeroValue170 z170) .nil) fun b1 a w h => ?_
  refine regS mixed hn hG h [0, 500] (ov [] (op_buildI (xs := [.const (.int .u32 1116352408), .const (.int .u32 1899447441), .const (.int .u32 3049323471), .const (.int .u32 3921009573), .const (.int .u32 961987163), .const (.int .u32 1508970993), .const (.int .u32 2453635748), .const (.int .u32 2870763221), .const (.int .u32 3624381080), .const (.int .u32 310598401), .const (.int .u32 607225278), .const (.int .u32 1426881987), .const (.int .u32 1925078388), .const (.int .u32 2162078206), .const (.int .u32 2614888103), .const (.int .u32 3248222580), .const (.int .u32 3835390401), .const (.int .u32 4022224774), .const (.int .u32 264347078), .const (.int .u32 604807628), .const (.int .u32 770255983), .const (.int .u32 1249150122), .const (.int .u32 1555081692), .const (.int .u32 1996064986), .const (.int .u32 2554220882), .const (.int .u32 2821834349), .const (.int .u32 2952996808), .const (.int .u32 3210313671), .const (.int .u32 3336571891), .const (.int .u32 3584528711), .const (.int .u32 113926993), .const (.int .u32 338241895), .const (.int .u32 666307205), .const (.int .u32 773529912), .const (.int .u32 1294757372), .const (.int .u32 1396182291), .const (.int .u32 1695183700), .const (.int .u32 1986661051), .const (.int .u32 2177026350), .const (.int .u32 2456956037), .const (.int .u32 2730485921), .const (.int .u32 2820302411), .const (.int .u32 3259730800), .const (.int .u32 3345764771), .const (.int .u32 3516065817), .const (.int .u32 3600352804), .const (.int .u32 4094571909), .const (.int .u32 275423344), .const (.int .u32 430227734), .const (.int .u32 506948616), .const (.int .u32 659060556), .const (.int .u32 883997877), .const (.int .u32 958139571), .const (.int .u32 1322822218), .const (.int .u32 1537002063), .const (.int .u32 1747873779), .const (.int .u32 1955562222), .const (.int .u32 2024104815), .const (.int .u32 2227730452), .const (.int .u32 2361852424), .const (.int .u32 2428436474), .const (.int .u32 2756734187), .const (.int .u32 3204031479), .const (.int .u32 3329325298)]) (ys := [1116352408, 1899447441, 3049323471, 3921009573, 961987163, 1508970993, 2453635748, 2870763221, 3624381080, 310598401, 607225278, 1426881987, 1925078388, 2162078206, 2614888103, 3248222580, 3835390401, 4022224774, 264347078, 604807628, 770255983, 1249150122, 1555081692, 1996064986, 2554220882, 2821834349, 2952996808, 3210313671, 3336571891, 3584528711, 113926993, 338241895, 666307205, 773529912, 1294757372, 1396182291, 1695183700, 1986661051, 2177026350, 2456956037, 2730485921, 2820302411, 3259730800, 3345764771, 3516065817, 3600352804, 4094571909, 275423344, 430227734, 506948616, 659060556, 883997877, 958139571, 1322822218, 1537002063, 1747873779, 1955562222, 2024104815, 2227730452, 2361852424, 2428436474, 2756734187, 3204031479, 3329325298]) rfl bu170 ⟨⟨_, qi, (cells_one (one_int _ _))⟩, ⟨_, qi, (cells_one (one_int _ _))⟩, ⟨_, qi, (cells_one (one_int _ _))⟩, ⟨_, qi, (cells_one (one_int _ _))⟩, ⟨_, qi, (cells_one (one_int _ _))⟩, ⟨_, qi, (cells_one (one_int _ _))⟩, ⟨_, qi, (cells_one (one_int _ _))⟩, ⟨_, qi, (cells_one (one_int _ _))⟩, ⟨_, qi, (cells_one (one_int _ _))⟩, ⟨_, qi, (cells_one (one_int _ _))⟩, ⟨_, qi, (cells_one (one_int _ _))⟩, ⟨_, qi, (cells_one (one_int _ _))⟩, ⟨_, qi, (cells_one (one_int _ _))⟩, ⟨_, qi, (cells_one (one_int _ _))⟩, ⟨_, qi, (cells_one (one_int _ _))⟩, ⟨_, qi, (cells_one (one_int _ _))⟩, ⟨_, qi, (cells_one (one_int _ _))⟩, ⟨_, qi, (cells_one (one_int _ _))⟩, ⟨_, qi, (cells_one (one_int _ _))⟩, ⟨_, qi, (cells_one (one_int _ _))⟩, ⟨_, qi, (cells_one (one_int _ _))⟩, ⟨_, qi, (cells_one (one_int _ _))⟩, ⟨_, qi, (cells_one (one_int _ _))⟩, ⟨_, qi, (cells_one (one_int _ _))⟩, ⟨_, qi, (cells_one (one_int _ _))⟩, ⟨_, qi, (cells_one (one_int _ _))⟩, ⟨_, qi, (cells_one (one_int _ _))⟩, ⟨_, qi, (cells_one (one_int _ _))⟩, ⟨_, qi, (cells_one (one_int _ _))⟩, ⟨_, qi, (cells_one (one_int _ _))⟩, ⟨_, qi, (cells_one (one_int _ _))⟩, ⟨_, qi, (cells_one (one_int _ _))⟩, ⟨_, qi, (cells_one (one_int _ _))⟩, ⟨_, qi, (cells_one (one_int _ _))⟩, ⟨_, qi, (cells_one (one_int _ _))⟩, ⟨_, qi, (cells_one (one_int _ _))⟩, ⟨_, qi, (cells_one (one_int _ _))⟩, ⟨_, qi, (cells_one (one_int _ _))⟩, ⟨_, qi, (cells_one (one_int _ _))⟩, ⟨_, qi, (cells_one (one_int _ _))⟩, ⟨_, qi, (cells_one (one_int _ _))⟩, ⟨_, qi, (cells_one (one_int _ _))⟩, ⟨_, qi, (cells_one (one_int _ _))⟩, ⟨_, qi, (cells_one (one_int _ _))⟩, ⟨_, qi, (cells_one (one_int _ _))⟩, ⟨_, qi, (cells_one (one_int _ _))⟩, ⟨_, qi, (cells_one (one_int _ _))⟩, ⟨_, qi, (cells_one (one_int _ _))⟩, ⟨_, qi, (cells_one (one_int _ _))⟩, ⟨_, qi, (cells_one (one_int _ _))⟩, ⟨_, qi, (cells_one (one_int _ _))⟩, ⟨_, qi, (cells_one (one_int _ _))⟩, ⟨_, qi, (cells_one (one_int _ _))⟩, ⟨_, qi, (cells_one (one_int _ _))⟩, ⟨_, qi, (cells_one (one_int _ _))⟩, ⟨_, qi, (cells_one (one_int _ _))⟩, ⟨_, qi, (cells_one (one_int _ _))⟩, ⟨_, qi, (cells_one (one_int _ _))⟩, ⟨_, qi, (cells_one (one_int _ _))⟩, ⟨_, qi, (cells_one (one_int _ _))⟩, ⟨_, qi, (cells_one (one_int _ _))⟩, ⟨_, qi, (cells_one (one_int _ _))⟩, ⟨_, qi, (cells_one (one_int _ _))⟩, ⟨_, qi, (cells_one (one_int _ _))⟩, trivial⟩ (by decide) rfl) <| ou [0, 500] 1 (op_store_w Tryd.sizeOf170 q0 q1 (cells_agg _)) .nil) fun _ a w h => ?_
  refine wp_ret ?_
  obtain rfl := Option.some.inj hF
  exact ⟨.inl rfl, ret1 h Tryd.results105 (r_cell 0 1 rfl rfl Tryd.isAgg170 Tryd.sizeOf170 rfl) [] [] rfl rfl rfl⟩

def ref01_turn (a_0 : Int) (a_1 : Int) : Option Int := some (bits .or .u32 (shr .u32 a_0 a_1) (shl .u32 a_0 (IntKind.wrap .u64 (32 - a_1))))
theorem ref01_turn_ok {a_0 : Int} {a_1 : Int} {r : Int} (hF : ref01_turn a_0 a_1 = some r) : CallOk Tryd.prog KG 106 [(intVP .u32 a_0), (intVP .u64 a_1)] [] (fun _ => []) (intVP .u32 r) := by
  refine CallOk.intro 13 Tryd.func106 rfl Tryd.ntmps106 (Nat.le_of_ble_eq_true rfl) ?_
  intro c a w hG hn h
  unfold ref01_turn at hF
  change SatL c [.slot 0 (intVP .u32 a_0), .slot 1 (intVP .u64 a_1)] a w at h
  refine regS mixed hn hG h [0, 1] (ov [] (op_assign qi) .nil) fun _ a w h => ?_
  refine regS mixed hn hG h [500] (ov [0] (op_move q0) <| ov [1] (op_move q0) <| ov [501, 500] (op_bin (bin_shru rfl) q0 q1) <| ov [0] (op_move q0) <| ov [1] (op_move q0) <| ov [500] (op_bin bin_sub qi q0) <| ov [502, 500] (op_bin (bin_shlu rfl) q0 q1) <| ov [504, 500] (op_bin bin_or q0 q1) <| ov [500] (op_assign q0) .nil) fun _ a w h => ?_
  refine wp_ret ?_
  obtain rfl := Option.some.inj hF
  exact ⟨.inl rfl, ret1 h Tryd.results106 (r_tmp 0 rfl) [] [] rfl rfl rfl⟩

def ref01_Block.b1 (a_1 : List (UInt8)) (x12 : Int) (x13 : List Int) : Option (Flow (List Int) (Int × (List Int))) := (if (decide (x12 < (16 : Int))) = true then (if (0 : Int) ≤ IntKind.wrap .i64 (4 * x12) ∧ IntKind.wrap .i64 (4 * x12) < a_1.length then (if (0 : Int) ≤ IntKind.wrap .i64 ((IntKind.wrap .i64 (4 * x12)) + 1) ∧ IntKind.wrap .i64 ((IntKind.wrap .i64 (4 * x12)) + 1) < a_1.length then (if (0 : Int) ≤ IntKind.wrap .i64 ((IntKind.wrap .i64 (4 * x12)) + 2) ∧ IntKind.wrap .i64 ((IntKind.wrap .i64 (4 * x12)) + 2) < a_1.length then (if (0 : Int) ≤ IntKind.wrap .i64 ((IntKind.wrap .i64 (4 * x12)) + 3) ∧ IntKind.wrap .i64 ((IntKind.wrap .i64 (4 * x12)) + 3) < a_1.length then (if (0 : Int) ≤ x12 ∧ x12 < 64 then some (.cont (IntKind.wrap .i64 (x12 + 1), x13.set x12.toNat (IntKind.wrap .u32 ((IntKind.wrap .u32 ((IntKind.wrap .u32 ((IntKind.wrap .u32 ((IntKind.wrap .u32 ((a_1.getD (IntKind.wrap .i64 (4 * x12)).toNat default).toNat)) * 16777216)) + (IntKind.wrap .u32 ((IntKind.wrap .u32 ((a_1.getD (IntKind.wrap .i64 ((IntKind.wrap .i64 (4 * x12)) + 1)).toNat default).toNat)) * 65536)))) + (IntKind.wrap .u32 ((IntKind.wrap .u32 ((a_1.getD (IntKind.wrap .i64 ((IntKind.wrap .i64 (4 * x12)) + 2)).toNat default).toNat)) * 256)))) + (IntKind.wrap .u32 ((a_1.getD (IntKind.wrap .i64 ((IntKind.wrap .i64 (4 * x12)) + 3)).toNat default).toNat)))))) else none) else none) else none) else none) else none) else some (.brk (x12, x13)))
def ref01_Block.b2 (x43 : Int) (x44 : List Int) : Option (Flow (List Int) (Int × (List Int))) := (if (decide (x43 < (64 : Int))) = true then (if (0 : Int) ≤ IntKind.wrap .i64 (x43 - 15) ∧ IntKind.wrap .i64 (x43 - 15) < 64 then ((ref01_turn (x44.getD (IntKind.wrap .i64 (x43 - 15)).toNat 0) 7).bind fun r59 => ((ref01_turn (x44.getD (IntKind.wrap .i64 (x43 - 15)).toNat 0) 18).bind fun r60 => (if (0 : Int) ≤ IntKind.wrap .i64 (x43 - 2) ∧ IntKind.wrap .i64 (x43 - 2) < 64 then ((ref01_turn (x44.getD (IntKind.wrap .i64 (x43 - 2)).toNat 0) 17).bind fun r62 => ((ref01_turn (x44.getD (IntKind.wrap .i64 (x43 - 2)).toNat 0) 19).bind fun r63 => (if (0 : Int) ≤ IntKind.wrap .i64 (x43 - 16) ∧ IntKind.wrap .i64 (x43 - 16) < 64 then (if (0 : Int) ≤ IntKind.wrap .i64 (x43 - 7) ∧ IntKind.wrap .i64 (x43 - 7) < 64 then (if (0 : Int) ≤ x43 ∧ x43 < 64 then some (.cont (IntKind.wrap .i64 (x43 + 1), x44.set x43.toNat (IntKind.wrap .u32 ((IntKind.wrap .u32 ((IntKind.wrap .u32 ((x44.getD (IntKind.wrap .i64 (x43 - 16)).toNat 0) + (bits .xor .u32 (bits .xor .u32 r59 r60) (shr .u32 (x44.getD (IntKind.wrap .i64 (x43 - 15)).toNat 0) 3)))) + (x44.getD (IntKind.wrap .i64 (x43 - 7)).toNat 0))) + (bits .xor .u32 (bits .xor .u32 r62 r63) (shr .u32 (x44.getD (IntKind.wrap .i64 (x43 - 2)).toNat 0) 10)))))) else none) else none) else none))) else none))) else none) else some (.brk (x43, x44)))
def ref01_Block.b3 (r4 : (List Int)) (y72 : List Int) (x80 : Int) (x81 : Int) (x82 : Int) (x83 : Int) (x84 : Int) (x85 : Int) (x86 : Int) (x87 : Int) (x88 : Int) : Option (Flow (List Int) (Int × Int × Int × Int × Int × Int × Int × Int × Int)) := (if (decide (x88 < (64 : Int))) = true then ((ref01_turn x84 6).bind fun r107 => ((ref01_turn x84 11).bind fun r108 => ((ref01_turn x84 25).bind fun r109 => (if (0 : Int) ≤ x88 ∧ x88 < 64 then ((ref01_turn x80 2).bind fun r111 => ((ref01_turn x80 13).bind fun r112 => ((ref01_turn x80 22).bind fun r113 => some (.cont (IntKind.wrap .u32 ((IntKind.wrap .u32 ((IntKind.wrap .u32 ((IntKind.wrap .u32 ((IntKind.wrap .u32 (x87 + (bits .xor .u32 (bits .xor .u32 r107 r108) r109))) + (bits .xor .u32 (bits .and .u32 x84 x85) (bits .and .u32 (bits .xor .u32 4294967295 x84) x86)))) + (r4.getD x88.toNat 0))) + (y72.getD x88.toNat 0))) + (IntKind.wrap .u32 ((bits .xor .u32 (bits .xor .u32 r111 r112) r113) + (bits .xor .u32 (bits .xor .u32 (bits .and .u32 x80 x81) (bits .and .u32 x80 x82)) (bits .and .u32 x81 x82))))), x80, x81, x82, IntKind.wrap .u32 (x83 + (IntKind.wrap .u32 ((IntKind.wrap .u32 ((IntKind.wrap .u32 ((IntKind.wrap .u32 (x87 + (bits .xor .u32 (bits .xor .u32 r107 r108) r109))) + (bits .xor .u32 (bits .and .u32 x84 x85) (bits .and .u32 (bits .xor .u32 4294967295 x84) x86)))) + (r4.getD x88.toNat 0))) + (y72.getD x88.toNat 0)))), x84, x85, x86, IntKind.wrap .i64 (x88 + 1)))))) else none)))) else some (.brk (x80, x81, x82, x83, x84, x85, x86, x87, x88)))
def ref01_Block (a_0 : List Int) (a_1 : List (UInt8)) : Option (List Int) := (if (!decide ((a_1.length : Int) = (64 : Int))) = true then some a_0 else ((ref01_constants).bind fun r4 => ((loopN (fun s : Int × (List Int) => ref01_Block.b1 a_1 s.1 s.2) ((16 - 0 : Int).toNat + 2) (0, (List.replicate 64 0))).bind fun cr => match cr with | .ret r => some r | .next (y32, y33) => ((loopN (fun s : Int × (List Int) => ref01_Block.b2 s.1 s.2) ((64 - 16 : Int).toNat + 2) (16, y33)).bind fun cr => match cr with | .ret r => some r | .next (y71, y72) => ((loopN (fun s : Int × Int × Int × Int × Int × Int × Int × Int × Int => ref01_Block.b3 r4 y72 s.1 s.2.1 s.2.2.1 s.2.2.2.1 s.2.2.2.2.1 s.2.2.2.2.2.1 s.2.2.2.2.2.2.1 s.2.2.2.2.2.2.2.1 s.2.2.2.2.2.2.2.2) ((64 - 0 : Int).toNat + 2) (a_0.getD (0 : Int).toNat 0, a_0.getD (1 : Int).toNat 0, a_0.getD (2 : Int).toNat 0, a_0.getD (3 : Int).toNat 0, a_0.getD (4 : Int).toNat 0, a_0.getD (5 : Int).toNat 0, a_0.getD (6 : Int).toNat 0, a_0.getD (7 : Int).toNat 0, 0)).bind fun cr => match cr with | .ret r => some r | .next (y118, y119, y120, y121, y122, y123, y124, y125, y126) => some ([IntKind.wrap .u32 ((a_0.getD (0 : Int).toNat 0) + y118), IntKind.wrap .u32 ((a_0.getD (1 : Int).toNat 0) + y119), IntKind.wrap .u32 ((a_0.getD (2 : Int).toNat 0) + y120), IntKind.wrap .u32 ((a_0.getD (3 : Int).toNat 0) + y121), IntKind.wrap .u32 ((a_0.getD (4 : Int).toNat 0) + y122), IntKind.wrap .u32 ((a_0.getD (5 : Int).toNat 0) + y123), IntKind.wrap .u32 ((a_0.getD (6 : Int).toNat 0) + y124), IntKind.wrap .u32 ((a_0.getD (7 : Int).toNat 0) + y125)] ++ List.replicate (8 - 8) 0))))))
theorem ref01_Block_ok {a_0 : List Int} {a_1 : List (UInt8)} {r : (List Int)} (hF : ref01_Block a_0 a_1 = some r) : CallOk Tryd.prog KG 101 [(aggVP [intsCk .u32 8 a_0]), (slVP bC a_1)] [] (fun _ => []) (aggVP [intsCk .u32 8 r]) := by
  refine CallOk.intro 231 Tryd.func101 rfl Tryd.ntmps101 (Nat.le_of_ble_eq_true rfl) ?_
  intro c a w hG hn h
  unfold ref01_Block at hF
  change SatL c [.slot 0 (aggVP [intsCk .u32 8 a_0]), .slot 1 (slVP bC a_1)] a w at h
  refine regS mixed hn hG h [1, 503, 501, 502, 500] (ob [0] (op_box q0 (cells_agg _)) <| ob [] (op_alloc Tryd.zeroValue150 z150) .nil) fun b1 a w h => ?_
  refine wp_seq ?_
  refine regS mixed hn hG h [0, 1, 2, 500, 3, 4] (ov [0] (op_move q0) <| ov [500] (op_len_sl Tryd.underlying129 q0) <| ov [500] (op_bin bin_neq q0 qi) .nil) fun _ a w h => ?_
  refine cnd h hF 3 [1, 2, 4, 5] [0, 1, 2, 4, 5] (fun hb3 hF h => ?_) (fun hb3 hF h => ?_)
  · refine regS mixed hn hG h [1, 500] (ov [0, 2] (op_load_w 1 Tryd.isAgg150 Tryd.sizeOf150 q0) <| ou [1, 500] 3 (op_store_w Tryd.sizeOf150 q0 q1 (cells_agg _)) .nil) fun _ a w h => ?_
    refine wp_ret ?_
    obtain rfl := Option.some.inj hF
    exact ⟨.inl rfl, ret1 h Tryd.results101 (r_cell 0 1 rfl rfl Tryd.isAgg150 Tryd.sizeOf150 rfl) [] [] rfl rfl rfl⟩
  · refine wp_skip ?_
    show Code.wp Tryd.prog _ _ a w
    obtain ⟨r4, hr4, hF⟩ := bind_some hF
    refine regS mixed hn hG h [0, 1, 2, 502, 3, 4, 500] (oc [] [] Tryd.call105 (ref01_constants_ok hr4) trivial <| ob [] (op_alloc Tryd.zeroValue170 z170) <| og [501, 502] [500] [.res 1 100000 (fun v1_ _ => (lb (v1_) 170 [intsCk .u32 64 r4]))] (GOk.plain (op_store_w Tryd.sizeOf170 q0 q1 (cells_agg _)) rfl) .nil) fun b5 a w h => ?_
    refine regS mixed hn hG h [0, 1, 2, 3, 501, 4, 5, 6, 500] (ob [] (op_alloc Tryd.zeroValue170 z170) .nil) fun b6 a w h => ?_
    refine wp_seq ?_
    refine regS mixed hn hG h [0, 1, 2, 3, 4, 500, 5, 6, 7, 8] (ov [] (op_assign qi) .nil) fun _ a w h => ?_
    refine wp_block ?_
    obtain ⟨cr28, hl29, hF⟩ := bind_some hF
    refine wp_mono (wp_loopN (R := (List Int)) (S := Int × (List Int)) (fun s a w => SatL c [.slot 1 (slVP bC a_1), .slot 2 (lpVP (b1 0) 0), .slot 4 (lpVP (b1 1) 0), .slot 5 (lpVP (b5 1) 0), .slot 6 (lpVP (b6 0) 0), .slot 7 (intVP .i64 s.1), .res (lb (b1 0) 150 [intsCk .u32 8 a_0]), .res (lb (b1 1) 150 [intsCk .u32 8 (List.replicate 8 0)]), .res (lb (b5 1) 170 [intsCk .u32 64 r4]), .res (lb (b6 0) 170 [intsCk .u32 64 s.2])] a w) (fun res e a w => match res with | .next s => e = .exit 0 ∧ SatL c [.slot 2 (lpVP (b1 0) 0), .slot 4 (lpVP (b1 1) 0), .slot 5 (lpVP (b5 1) 0), .slot 6 (lpVP (b6 0) 0), .res (lb (b1 0) 150 [intsCk .u32 8 a_0]), .res (lb (b1 1) 150 [intsCk .u32 8 (List.replicate 8 0)]), .res (lb (b5 1) 170 [intsCk .u32 64 r4]), .res (lb (b6 0) 170 [intsCk .u32 64 s.2])] a w | .ret r => e = .ret ∧ RetOk Tryd.prog Tryd.f101 c (aggVP [intsCk .u32 8 r]) (fun _ => []) a w) ?_ _ (0, (List.replicate 64 0)) _ _ _ (h.sub [0, 1, 2, 3, 4, 5, 6, 7, 8, 9] (by rfl)) hl29) ?_
    · clear hl29 hF h
      intro s a w o h hF
      obtain ⟨x12, x13⟩ := s
      change ref01_Block.b1 a_1 x12 x13 = some o at hF
      unfold ref01_Block.b1 at hF
      change SatL c [.slot 1 (slVP bC a_1), .slot 2 (lpVP (b1 0) 0), .slot 4 (lpVP (b1 1) 0), .slot 5 (lpVP (b5 1) 0), .slot 6 (lpVP (b6 0) 0), .slot 7 (intVP .i64 x12), .res (lb (b1 0) 150 [intsCk .u32 8 a_0]), .res (lb (b1 1) 150 [intsCk .u32 8 (List.replicate 8 0)]), .res (lb (b5 1) 170 [intsCk .u32 64 r4]), .res (lb (b6 0) 170 [intsCk .u32 64 x13])] a w at h
      refine wp_seq ?_
      refine regS mixed hn hG h [0, 1, 2, 3, 4, 5, 500, 6, 7, 8, 9] (ov [5] (op_move q0) <| ov [500] (op_bin bin_lss q0 qi) .nil) fun _ a w h => ?_
      refine cnd h hF 6 [0, 1, 2, 3, 4, 5, 7, 8, 9, 10] [0, 1, 2, 3, 4, 5, 7, 8, 9, 10] (fun hb22 hF h => ?_) (fun hb22 hF h => ?_)
      · refine wp_skip ?_
        show Code.wp Tryd.prog _ _ a w
        refine wp_seq ?_
        refine wp_block ?_
        obtain ⟨hv23, hF⟩ := ite_some hF
        obtain ⟨hv24, hF⟩ := ite_some hF
        obtain ⟨hv25, hF⟩ := ite_some hF
        obtain ⟨hv26, hF⟩ := ite_some hF
        obtain ⟨hv27, hF⟩ := ite_some hF
        refine reg mixed hn hG h [0, 1, 2, 3, 4, 5, 6, 7, 8, 500] (ov [5] (op_move q0) <| ov [0] (op_move q0) <| ov [5] (op_move q0) <| ov [500] (op_bin bin_mul qi q0) <| ov [502, 500] (op_indexAddr_sl Tryd.underlying129 Tryd.sizeOf5 lens_bC q0 q1 hv23) <| ov [500] (op_load_pp1 [] Tryd.isAgg5 q0) <| ov [500] (op_convert_int Tryd.underlying5 Tryd.underlying51 q0) <| ov [500] (op_bin bin_mul q0 qi) <| ov [0] (op_move q0) <| ov [5] (op_move q0) <| ov [500] (op_bin bin_mul qi q0) <| ov [500] (op_bin bin_add q0 qi) <| ov [503, 500] (op_indexAddr_sl Tryd.underlying129 Tryd.sizeOf5 lens_bC q0 q1 hv24) <| ov [500] (op_load_pp1 [] Tryd.isAgg5 q0) <| ov [500] (op_convert_int Tryd.underlying5 Tryd.underlying51 q0) <| ov [500] (op_bin bin_mul q0 qi) <| ov [508, 500] (op_bin bin_add q0 q1) <| ov [0] (op_move q0) <| ov [5] (op_move q0) <| ov [500] (op_bin bin_mul qi q0) <| ov [500] (op_bin bin_add q0 qi) <| ov [503, 500] (op_indexAddr_sl Tryd.underlying129 Tryd.sizeOf5 lens_bC q0 q1 hv25) <| ov [500] (op_load_pp1 [] Tryd.isAgg5 q0) <| ov [500] (op_convert_int Tryd.underlying5 Tryd.underlying51 q0) <| ov [500] (op_bin bin_mul q0 qi) <| ov [508, 500] (op_bin bin_add q0 q1) <| ov [0] (op_move q0) <| ov [5] (op_move q0) <| ov [500] (op_bin bin_mul qi q0) <| ov [500] (op_bin bin_add q0 qi) <| ov [503, 500] (op_indexAddr_sl Tryd.underlying129 Tryd.sizeOf5 lens_bC q0 q1 hv26) <| ov [500] (op_load_pp1 [] Tryd.isAgg5 q0) <| ov [500] (op_convert_int Tryd.underlying5 Tryd.underlying51 q0) <| ov [507, 500] (op_bin bin_add q0 q1) <| ov [4, 533] (op_indexAddr_lb Tryd.underlying170 Tryd.sizeOf51 q0 q1 hv27) <| ou [500, 501] 9 (op_store_lbI (i := x12) [] [] Tryd.sizeOf51 q0 q1 rfl hv27) .nil) fun _ a w h => ?_
        show Code.wp Tryd.prog _ _ a w
        refine reg mixed hn hG h [0, 1, 2, 3, 4, 500, 6, 7, 8, 9] (ov [5] (op_move q0) <| ov [500] (op_bin bin_add q0 qi) <| od [500] 5 (op_assign q0) .nil) fun _ a w h => ?_
        obtain rfl := Option.some.inj hF
        exact ⟨rfl, h.sub [0, 1, 2, 3, 4, 5, 6, 7, 8, 9] (by rfl)⟩
      · refine wp_exit ?_
        obtain rfl := Option.some.inj hF
        exact ⟨exit_ne _, rfl, h.sub [1, 2, 3, 4, 6, 7, 8, 9] (by rfl)⟩
    · clear hl29
      intro e a w hq
      cases cr28 with
      | ret r30 =>
        obtain ⟨rfl, hq⟩ := hq
        obtain rfl := Option.some.inj hF
        exact ⟨.inl rfl, hq⟩
      | next s31 =>
        obtain ⟨y32, y33⟩ := s31
        obtain ⟨rfl, h⟩ := hq
        change SatL c [.slot 2 (lpVP (b1 0) 0), .slot 4 (lpVP (b1 1) 0), .slot 5 (lpVP (b5 1) 0), .slot 6 (lpVP (b6 0) 0), .res (lb (b1 0) 150 [intsCk .u32 8 a_0]), .res (lb (b1 1) 150 [intsCk .u32 8 (List.replicate 8 0)]), .res (lb (b5 1) 170 [intsCk .u32 64 r4]), .res (lb (b6 0) 170 [intsCk .u32 64 y33])] a w at h
        refine inBlock_at ?_
        show Code.wp Tryd.prog _ _ a w
        refine wp_seq ?_
        refine regS mixed hn hG h [0, 1, 2, 3, 500, 4, 5, 6, 7] (ov [] (op_assign qi) .nil) fun _ a w h => ?_
        refine wp_block ?_
        obtain ⟨cr67, hl68, hF⟩ := bind_some hF
        refine wp_mono (wp_loopN (R := (List Int)) (S := Int × (List Int)) (fun s a w => SatL c [.slot 2 (lpVP (b1 0) 0), .slot 4 (lpVP (b1 1) 0), .slot 5 (lpVP (b5 1) 0), .slot 6 (lpVP (b6 0) 0), .slot 8 (intVP .i64 s.1), .res (lb (b1 0) 150 [intsCk .u32 8 a_0]), .res (lb (b1 1) 150 [intsCk .u32 8 (List.replicate 8 0)]), .res (lb (b5 1) 170 [intsCk .u32 64 r4]), .res (lb (b6 0) 170 [intsCk .u32 64 s.2])] a w) (fun res e a w => match res with | .next s => e = .exit 2 ∧ SatL c [.slot 2 (lpVP (b1 0) 0), .slot 4 (lpVP (b1 1) 0), .slot 5 (lpVP (b5 1) 0), .slot 6 (lpVP (b6 0) 0), .res (lb (b1 0) 150 [intsCk .u32 8 a_0]), .res (lb (b1 1) 150 [intsCk .u32 8 (List.replicate 8 0)]), .res (lb (b5 1) 170 [intsCk .u32 64 r4]), .res (lb (b6 0) 170 [intsCk .u32 64 s.2])] a w | .ret r => e = .ret ∧ RetOk Tryd.prog Tryd.f101 c (aggVP [intsCk .u32 8 r]) (fun _ => []) a w) ?_ _ (16, y33) _ _ _ (h.sub [0, 1, 2, 3, 4, 5, 6, 7, 8] (by rfl)) hl68) ?_
        · clear hl68 hF h
          intro s a w o h hF
          obtain ⟨x43, x44⟩ := s
          change ref01_Block.b2 x43 x44 = some o at hF
          unfold ref01_Block.b2 at hF
          change SatL c [.slot 2 (lpVP (b1 0) 0), .slot 4 (lpVP (b1 1) 0), .slot 5 (lpVP (b5 1) 0), .slot 6 (lpVP (b6 0) 0), .slot 8 (intVP .i64 x43), .res (lb (b1 0) 150 [intsCk .u32 8 a_0]), .res (lb (b1 1) 150 [intsCk .u32 8 (List.replicate 8 0)]), .res (lb (b5 1) 170 [intsCk .u32 64 r4]), .res (lb (b6 0) 170 [intsCk .u32 64 x44])] a w at h
          refine wp_seq ?_
          refine regS mixed hn hG h [0, 1, 2, 3, 4, 500, 5, 6, 7, 8] (ov [4] (op_move q0) <| ov [500] (op_bin bin_lss q0 qi) .nil) fun _ a w h => ?_
          refine cnd h hF 5 [0, 1, 2, 3, 4, 6, 7, 8, 9] [0, 1, 2, 3, 4, 6, 7, 8, 9] (fun hb57 hF h => ?_) (fun hb57 hF h => ?_)
          · refine wp_skip ?_
            show Code.wp Tryd.prog _ _ a w
            refine wp_seq ?_
            refine wp_block ?_
            obtain ⟨hv58, hF⟩ := ite_some hF
            obtain ⟨r59, hr59, hF⟩ := bind_some hF
            obtain ⟨r60, hr60, hF⟩ := bind_some hF
            refine regS mixed hn hG h [0, 1, 2, 3, 4, 500, 5, 6, 7, 8] (ov [4] (op_move q0) <| ov [500] (op_bin bin_sub q0 qi) <| ov [3, 500] (op_indexAddr_lb Tryd.underlying170 Tryd.sizeOf51 q0 q1 hv58) <| ov [500, 8] (op_load_lbI (i := IntKind.wrap .i64 (x43 - 15)) [] [] 1 Tryd.isAgg51 q0 rfl rfl hv58) <| oc [500] [] Tryd.call106 (ref01_turn_ok hr59) ⟨q0, qi, trivial⟩ <| ov [4] (op_move q0) <| ov [500] (op_bin bin_sub q0 qi) <| ov [3, 500] (op_indexAddr_lb Tryd.underlying170 Tryd.sizeOf51 q0 q1 hv58) <| ov [500, 8] (op_load_lbI (i := IntKind.wrap .i64 (x43 - 15)) [] [] 1 Tryd.isAgg51 q0 rfl rfl hv58) <| oc [500] [] Tryd.call106 (ref01_turn_ok hr60) ⟨q0, qi, trivial⟩ <| ov [505, 500] (op_bin bin_xor q0 q1) <| ov [4] (op_move q0) <| ov [500] (op_bin bin_sub q0 qi) <| ov [3, 500] (op_indexAddr_lb Tryd.underlying170 Tryd.sizeOf51 q0 q1 hv58) <| ov [500, 8] (op_load_lbI (i := IntKind.wrap .i64 (x43 - 15)) [] [] 1 Tryd.isAgg51 q0 rfl rfl hv58) <| ov [500] (op_bin (bin_shru rfl) q0 qi) <| ov [505, 500] (op_bin bin_xor q0 q1) <| ov [500] (op_assign q0) .nil) fun _ a w h => ?_
            obtain ⟨hv61, hF⟩ := ite_some hF
            obtain ⟨r62, hr62, hF⟩ := bind_some hF
            obtain ⟨r63, hr63, hF⟩ := bind_some hF
            refine regS mixed hn hG h [0, 1, 2, 3, 4, 5, 500, 6, 7, 8, 9] (ov [4] (op_move q0) <| ov [500] (op_bin bin_sub q0 qi) <| ov [3, 500] (op_indexAddr_lb Tryd.underlying170 Tryd.sizeOf51 q0 q1 hv61) <| ov [500, 9] (op_load_lbI (i := IntKind.wrap .i64 (x43 - 2)) [] [] 1 Tryd.isAgg51 q0 rfl rfl hv61) <| oc [500] [] Tryd.call106 (ref01_turn_ok hr62) ⟨q0, qi, trivial⟩ <| ov [4] (op_move q0) <| ov [500] (op_bin bin_sub q0 qi) <| ov [3, 500] (op_indexAddr_lb Tryd.underlying170 Tryd.sizeOf51 q0 q1 hv61) <| ov [500, 9] (op_load_lbI (i := IntKind.wrap .i64 (x43 - 2)) [] [] 1 Tryd.isAgg51 q0 rfl rfl hv61) <| oc [500] [] Tryd.call106 (ref01_turn_ok hr63) ⟨q0, qi, trivial⟩ <| ov [505, 500] (op_bin bin_xor q0 q1) <| ov [4] (op_move q0) <| ov [500] (op_bin bin_sub q0 qi) <| ov [3, 500] (op_indexAddr_lb Tryd.underlying170 Tryd.sizeOf51 q0 q1 hv61) <| ov [500, 9] (op_load_lbI (i := IntKind.wrap .i64 (x43 - 2)) [] [] 1 Tryd.isAgg51 q0 rfl rfl hv61) <| ov [500] (op_bin (bin_shru rfl) q0 qi) <| ov [505, 500] (op_bin bin_xor q0 q1) <| ov [500] (op_assign q0) .nil) fun _ a w h => ?_
            obtain ⟨hv64, hF⟩ := ite_some hF
            obtain ⟨hv65, hF⟩ := ite_some hF
            obtain ⟨hv66, hF⟩ := ite_some hF
            refine reg mixed hn hG h [0, 1, 2, 3, 4, 7, 8, 9, 500] (ov [4] (op_move q0) <| ov [4] (op_move q0) <| ov [500] (op_bin bin_sub q0 qi) <| ov [3, 500] (op_indexAddr_lb Tryd.underlying170 Tryd.sizeOf51 q0 q1 hv64) <| ov [500, 10] (op_load_lbI (i := IntKind.wrap .i64 (x43 - 16)) [] [] 1 Tryd.isAgg51 q0 rfl rfl hv64) <| ov [5] (op_move q0) <| ov [501, 500] (op_bin bin_add q0 q1) <| ov [4] (op_move q0) <| ov [500] (op_bin bin_sub q0 qi) <| ov [3, 500] (op_indexAddr_lb Tryd.underlying170 Tryd.sizeOf51 q0 q1 hv65) <| ov [500, 10] (op_load_lbI (i := IntKind.wrap .i64 (x43 - 7)) [] [] 1 Tryd.isAgg51 q0 rfl rfl hv65) <| ov [504, 500] (op_bin bin_add q0 q1) <| ov [6] (op_move q0) <| ov [501, 500] (op_bin bin_add q0 q1) <| ov [3, 513] (op_indexAddr_lb Tryd.underlying170 Tryd.sizeOf51 q0 q1 hv66) <| ou [500, 501] 10 (op_store_lbI (i := x43) [] [] Tryd.sizeOf51 q0 q1 rfl hv66) .nil) fun _ a w h => ?_
            show Code.wp Tryd.prog _ _ a w
            refine reg mixed hn hG h [0, 1, 2, 3, 500, 5, 6, 7, 8] (ov [4] (op_move q0) <| ov [500] (op_bin bin_add q0 qi) <| od [500] 4 (op_assign q0) .nil) fun _ a w h => ?_
            obtain rfl := Option.some.inj hF
            exact ⟨rfl, h.sub [0, 1, 2, 3, 4, 5, 6, 7, 8] (by rfl)⟩
          · refine wp_exit ?_
            obtain rfl := Option.some.inj hF
            exact ⟨exit_ne _, rfl, h.sub [0, 1, 2, 3, 5, 6, 7, 8] (by rfl)⟩
        · clear hl68
          intro e a w hq
          cases cr67 with
          | ret r69 =>
            obtain ⟨rfl, hq⟩ := hq
            obtain rfl := Option.some.inj hF
            exact ⟨.inl rfl, hq⟩
          | next s70 =>
            obtain ⟨y71, y72⟩ := s70
            obtain ⟨rfl, h⟩ := hq
            change SatL c [.slot 2 (lpVP (b1 0) 0), .slot 4 (lpVP (b1 1) 0), .slot 5 (lpVP (b5 1) 0), .slot 6 (lpVP (b6 0) 0), .res (lb (b1 0) 150 [intsCk .u32 8 a_0]), .res (lb (b1 1) 150 [intsCk .u32 8 (List.replicate 8 0)]), .res (lb (b5 1) 170 [intsCk .u32 64 r4]), .res (lb (b6 0) 170 [intsCk .u32 64 y72])] a w at h
            refine inBlock_at ?_
            show Code.wp Tryd.prog _ _ a w
            refine regS mixed hn hG h [0, 1, 2, 3, 507, 506, 505, 504, 503, 502, 501, 500, 4, 5, 6, 7] (ov [0] (op_indexAddr_lb Tryd.underlying150 Tryd.sizeOf51 q0 qi (by decide)) <| ov [500, 4] (op_load_lbI (i := 0) [] [] 1 Tryd.isAgg51 q0 rfl rfl (by decide)) <| ov [0] (op_indexAddr_lb Tryd.underlying150 Tryd.sizeOf51 q0 qi (by decide)) <| ov [500, 4] (op_load_lbI (i := 1) [] [] 1 Tryd.isAgg51 q0 rfl rfl (by decide)) <| ov [0] (op_indexAddr_lb Tryd.underlying150 Tryd.sizeOf51 q0 qi (by decide)) <| ov [500, 4] (op_load_lbI (i := 2) [] [] 1 Tryd.isAgg51 q0 rfl rfl (by decide)) <| ov [0] (op_indexAddr_lb Tryd.underlying150 Tryd.sizeOf51 q0 qi (by decide)) <| ov [500, 4] (op_load_lbI (i := 3) [] [] 1 Tryd.isAgg51 q0 rfl rfl (by decide)) <| ov [0] (op_indexAddr_lb Tryd.underlying150 Tryd.sizeOf51 q0 qi (by decide)) <| ov [500, 4] (op_load_lbI (i := 4) [] [] 1 Tryd.isAgg51 q0 rfl rfl (by decide)) <| ov [0] (op_indexAddr_lb Tryd.underlying150 Tryd.sizeOf51 q0 qi (by decide)) <| ov [500, 4] (op_load_lbI (i := 5) [] [] 1 Tryd.isAgg51 q0 rfl rfl (by decide)) <| ov [0] (op_indexAddr_lb Tryd.underlying150 Tryd.sizeOf51 q0 qi (by decide)) <| ov [500, 4] (op_load_lbI (i := 6) [] [] 1 Tryd.isAgg51 q0 rfl rfl (by decide)) <| ov [0] (op_indexAddr_lb Tryd.underlying150 Tryd.sizeOf51 q0 qi (by decide)) <| ov [500, 4] (op_load_lbI (i := 7) [] [] 1 Tryd.isAgg51 q0 rfl rfl (by decide)) <| ov [514] (op_assign q0) <| ov [513] (op_assign q0) <| ov [512] (op_assign q0) <| ov [511] (op_assign q0) <| ov [510] (op_assign q0) <| ov [509] (op_assign q0) <| ov [508] (op_assign q0) <| ov [507] (op_assign q0) .nil) fun _ a w h => ?_
            refine wp_seq ?_
            refine regS mixed hn hG h [0, 1, 2, 3, 4, 5, 6, 7, 8, 9, 10, 11, 500, 12, 13, 14, 15] (ov [] (op_assign qi) .nil) fun _ a w h => ?_
            refine wp_block ?_
            obtain ⟨cr114, hl115, hF⟩ := bind_some hF
            refine wp_mono (wp_loopN (R := (List Int)) (S := Int × Int × Int × Int × Int × Int × Int × Int × Int) (fun s a w => SatL c [.slot 2 (lpVP (b1 0) 0), .slot 4 (lpVP (b1 1) 0), .slot 5 (lpVP (b5 1) 0), .slot 6 (lpVP (b6 0) 0), .slot 11 (intVP .u32 s.1), .slot 12 (intVP .u32 s.2.1), .slot 13 (intVP .u32 s.2.2.1), .slot 14 (intVP .u32 s.2.2.2.1), .slot 15 (intVP .u32 s.2.2.2.2.1), .slot 16 (intVP .u32 s.2.2.2.2.2.1), .slot 17 (intVP .u32 s.2.2.2.2.2.2.1), .slot 18 (intVP .u32 s.2.2.2.2.2.2.2.1), .slot 19 (intVP .i64 s.2.2.2.2.2.2.2.2), .res (lb (b1 0) 150 [intsCk .u32 8 a_0]), .res (lb (b1 1) 150 [intsCk .u32 8 (List.replicate 8 0)]), .res (lb (b5 1) 170 [intsCk .u32 64 r4]), .res (lb (b6 0) 170 [intsCk .u32 64 y72])] a w) (fun res e a w => match res with | .next s => e = .exit 4 ∧ SatL c [.slot 2 (lpVP (b1 0) 0), .slot 4 (lpVP (b1 1) 0), .slot 11 (intVP .u32 s.1), .slot 12 (intVP .u32 s.2.1), .slot 13 (intVP .u32 s.2.2.1), .slot 14 (intVP .u32 s.2.2.2.1), .slot 15 (intVP .u32 s.2.2.2.2.1), .slot 16 (intVP .u32 s.2.2.2.2.2.1), .slot 17 (intVP .u32 s.2.2.2.2.2.2.1), .slot 18 (intVP .u32 s.2.2.2.2.2.2.2.1), .res (lb (b1 0) 150 [intsCk .u32 8 a_0]), .res (lb (b1 1) 150 [intsCk .u32 8 (List.replicate 8 0)])] a w | .ret r => e = .ret ∧ RetOk Tryd.prog Tryd.f101 c (aggVP [intsCk .u32 8 r]) (fun _ => []) a w) ?_ _ (a_0.getD (0 : Int).toNat 0, a_0.getD (1 : Int).toNat 0, a_0.getD (2 : Int).toNat 0, a_0.getD (3 : Int).toNat 0, a_0.getD (4 : Int).toNat 0, a_0.getD (5 : Int).toNat 0, a_0.getD (6 : Int).toNat 0, a_0.getD (7 : Int).toNat 0, 0) _ _ _ (h.sub [0, 1, 2, 3, 4, 5, 6, 7, 8, 9, 10, 11, 12, 13, 14, 15, 16] (by rfl)) hl115) ?_
            · clear hl115 hF h
              intro s a w o h hF
              obtain ⟨x80, x81, x82, x83, x84, x85, x86, x87, x88⟩ := s
              change ref01_Block.b3 r4 y72 x80 x81 x82 x83 x84 x85 x86 x87 x88 = some o at hF
              unfold ref01_Block.b3 at hF
              change SatL c [.slot 2 (lpVP (b1 0) 0), .slot 4 (lpVP (b1 1) 0), .slot 5 (lpVP (b5 1) 0), .slot 6 (lpVP (b6 0) 0), .slot 11 (intVP .u32 x80), .slot 12 (intVP .u32 x81), .slot 13 (intVP .u32 x82), .slot 14 (intVP .u32 x83), .slot 15 (intVP .u32 x84), .slot 16 (intVP .u32 x85), .slot 17 (intVP .u32 x86), .slot 18 (intVP .u32 x87), .slot 19 (intVP .i64 x88), .res (lb (b1 0) 150 [intsCk .u32 8 a_0]), .res (lb (b1 1) 150 [intsCk .u32 8 (List.replicate 8 0)]), .res (lb (b5 1) 170 [intsCk .u32 64 r4]), .res (lb (b6 0) 170 [intsCk .u32 64 y72])] a w at h
              refine wp_seq ?_
              refine regS mixed hn hG h [0, 1, 2, 3, 4, 5, 6, 7, 8, 9, 10, 11, 12, 500, 13, 14, 15, 16] (ov [12] (op_move q0) <| ov [500] (op_bin bin_lss q0 qi) .nil) fun _ a w h => ?_
              refine cnd h hF 13 [0, 1, 2, 3, 4, 5, 6, 7, 8, 9, 10, 11, 12, 14, 15, 16, 17] [0, 1, 2, 3, 4, 5, 6, 7, 8, 9, 10, 11, 12, 14, 15, 16, 17] (fun hb106 hF h => ?_) (fun hb106 hF h => ?_)
              · refine wp_skip ?_
                show Code.wp Tryd.prog _ _ a w
                refine wp_seq ?_
                refine wp_block ?_
                obtain ⟨r107, hr107, hF⟩ := bind_some hF
                obtain ⟨r108, hr108, hF⟩ := bind_some hF
                obtain ⟨r109, hr109, hF⟩ := bind_some hF
                obtain ⟨hv110, hF⟩ := ite_some hF
                refine regS mixed hn hG h [0, 1, 2, 3, 4, 5, 6, 7, 8, 9, 10, 12, 500, 13, 14, 15, 16] (ov [11] (op_move q0) <| ov [8] (op_move q0) <| oc [500] [] Tryd.call106 (ref01_turn_ok hr107) ⟨q0, qi, trivial⟩ <| ov [8] (op_move q0) <| oc [500] [] Tryd.call106 (ref01_turn_ok hr108) ⟨q0, qi, trivial⟩ <| ov [502, 500] (op_bin bin_xor q0 q1) <| ov [8] (op_move q0) <| oc [500] [] Tryd.call106 (ref01_turn_ok hr109) ⟨q0, qi, trivial⟩ <| ov [502, 500] (op_bin bin_xor q0 q1) <| ov [508, 500] (op_bin bin_add q0 q1) <| ov [8] (op_move q0) <| ov [9] (op_move q0) <| ov [501, 500] (op_bin bin_and q0 q1) <| ov [8] (op_move q0) <| ov [500] (op_bin bin_xor qi q0) <| ov [10] (op_move q0) <| ov [501, 500] (op_bin bin_and q0 q1) <| ov [504, 500] (op_bin bin_xor q0 q1) <| ov [508, 500] (op_bin bin_add q0 q1) <| ov [12] (op_move q0) <| ov [2, 500] (op_indexAddr_lb Tryd.underlying170 Tryd.sizeOf51 q0 q1 hv110) <| ov [500, 15] (op_load_lbI (i := x88) [] [] 1 Tryd.isAgg51 q0 rfl rfl hv110) <| ov [503, 500] (op_bin bin_add q0 q1) <| ov [12] (op_move q0) <| ov [3, 500] (op_indexAddr_lb Tryd.underlying170 Tryd.sizeOf51 q0 q1 hv110) <| ov [500, 16] (op_load_lbI (i := x88) [] [] 1 Tryd.isAgg51 q0 rfl rfl hv110) <| ov [503, 500] (op_bin bin_add q0 q1) <| ov [500] (op_assign q0) .nil) fun _ a w h => ?_
                obtain ⟨r111, hr111, hF⟩ := bind_some hF
                obtain ⟨r112, hr112, hF⟩ := bind_some hF
                obtain ⟨r113, hr113, hF⟩ := bind_some hF
                refine regS mixed hn hG h [0, 1, 2, 3, 4, 5, 6, 7, 8, 9, 10, 11, 12, 500, 13, 14, 15, 16] (ov [4] (op_move q0) <| oc [500] [] Tryd.call106 (ref01_turn_ok hr111) ⟨q0, qi, trivial⟩ <| ov [4] (op_move q0) <| oc [500] [] Tryd.call106 (ref01_turn_ok hr112) ⟨q0, qi, trivial⟩ <| ov [502, 500] (op_bin bin_xor q0 q1) <| ov [4] (op_move q0) <| oc [500] [] Tryd.call106 (ref01_turn_ok hr113) ⟨q0, qi, trivial⟩ <| ov [502, 500] (op_bin bin_xor q0 q1) <| ov [4] (op_move q0) <| ov [5] (op_move q0) <| ov [501, 500] (op_bin bin_and q0 q1) <| ov [4] (op_move q0) <| ov [6] (op_move q0) <| ov [501, 500] (op_bin bin_and q0 q1) <| ov [503, 500] (op_bin bin_xor q0 q1) <| ov [5] (op_move q0) <| ov [6] (op_move q0) <| ov [501, 500] (op_bin bin_and q0 q1) <| ov [503, 500] (op_bin bin_xor q0 q1) <| ov [511, 500] (op_bin bin_add q0 q1) <| ov [500] (op_assign q0) .nil) fun _ a w h => ?_
                refine regS mixed hn hG h [0, 1, 2, 3, 4, 5, 6, 7, 8, 9, 500, 11, 12, 13, 14, 15, 16, 17] (ov [10] (op_move q0) <| ov [500] (op_assign q0) .nil) fun _ a w h => ?_
                refine regS mixed hn hG h [0, 1, 2, 3, 4, 5, 6, 7, 8, 500, 10, 11, 12, 13, 14, 15, 16, 17] (ov [9] (op_move q0) <| ov [500] (op_assign q0) .nil) fun _ a w h => ?_
                refine regS mixed hn hG h [0, 1, 2, 3, 4, 5, 6, 7, 500, 9, 10, 11, 12, 13, 14, 15, 16, 17] (ov [8] (op_move q0) <| ov [500] (op_assign q0) .nil) fun _ a w h => ?_
                refine regS mixed hn hG h [0, 1, 2, 3, 4, 5, 6, 500, 8, 9, 10, 11, 12, 13, 14, 15, 16, 17] (ov [7] (op_move q0) <| ov [12] (op_move q0) <| ov [501, 500] (op_bin bin_add q0 q1) <| ov [500] (op_assign q0) .nil) fun _ a w h => ?_
                refine regS mixed hn hG h [0, 1, 2, 3, 4, 5, 500, 7, 8, 9, 10, 11, 12, 13, 14, 15, 16, 17] (ov [6] (op_move q0) <| ov [500] (op_assign q0) .nil) fun _ a w h => ?_
                refine regS mixed hn hG h [0, 1, 2, 3, 4, 500, 6, 7, 8, 9, 10, 11, 12, 13, 14, 15, 16, 17] (ov [5] (op_move q0) <| ov [500] (op_assign q0) .nil) fun _ a w h => ?_
                refine regS mixed hn hG h [0, 1, 2, 3, 500, 5, 6, 7, 8, 9, 10, 11, 12, 13, 14, 15, 16, 17] (ov [4] (op_move q0) <| ov [500] (op_assign q0) .nil) fun _ a w h => ?_
                refine reg mixed hn hG h [0, 1, 2, 3, 500, 4, 5, 6, 7, 8, 9, 10, 11, 14, 15, 16, 17] (ov [12] (op_move q0) <| ov [13] (op_move q0) <| ov [501, 500] (op_bin bin_add q0 q1) <| ov [500] (op_assign q0) .nil) fun _ a w h => ?_
                show Code.wp Tryd.prog _ _ a w
                refine reg mixed hn hG h [0, 1, 2, 3, 4, 5, 6, 7, 8, 9, 10, 11, 500, 13, 14, 15, 16] (ov [12] (op_move q0) <| ov [500] (op_bin bin_add q0 qi) <| od [500] 12 (op_assign q0) .nil) fun _ a w h => ?_
                obtain rfl := Option.some.inj hF
                exact ⟨rfl, h.sub [0, 1, 2, 3, 4, 5, 6, 7, 8, 9, 10, 11, 12, 13, 14, 15, 16] (by rfl)⟩
              · refine wp_exit ?_
                obtain rfl := Option.some.inj hF
                exact ⟨exit_ne _, rfl, h.sub [0, 1, 4, 5, 6, 7, 8, 9, 10, 11, 13, 14] (by rfl)⟩
            · clear hl115
              intro e a w hq
              cases cr114 with
              | ret r116 =>
                obtain ⟨rfl, hq⟩ := hq
                obtain rfl := Option.some.inj hF
                exact ⟨.inl rfl, hq⟩
              | next s117 =>
                obtain ⟨y118, y119, y120, y121, y122, y123, y124, y125, y126⟩ := s117
                obtain ⟨rfl, h⟩ := hq
                change SatL c [.slot 2 (lpVP (b1 0) 0), .slot 4 (lpVP (b1 1) 0), .slot 11 (intVP .u32 y118), .slot 12 (intVP .u32 y119), .slot 13 (intVP .u32 y120), .slot 14 (intVP .u32 y121), .slot 15 (intVP .u32 y122), .slot 16 (intVP .u32 y123), .slot 17 (intVP .u32 y124), .slot 18 (intVP .u32 y125), .res (lb (b1 0) 150 [intsCk .u32 8 a_0]), .res (lb (b1 1) 150 [intsCk .u32 8 (List.replicate 8 0)])] a w at h
                refine inBlock_at ?_
                show Code.wp Tryd.prog _ _ a w
                refine regS mixed hn hG h [1, 500] (ov [0] (op_indexAddr_lb Tryd.underlying150 Tryd.sizeOf51 q0 qi (by decide)) <| ov [500, 10] (op_load_lbI (i := 0) [] [] 1 Tryd.isAgg51 q0 rfl rfl (by decide)) <| ov [2] (op_move q0) <| ov [501, 500] (op_bin bin_add q0 q1) <| ov [0] (op_indexAddr_lb Tryd.underlying150 Tryd.sizeOf51 q0 qi (by decide)) <| ov [500, 10] (op_load_lbI (i := 1) [] [] 1 Tryd.isAgg51 q0 rfl rfl (by decide)) <| ov [3] (op_move q0) <| ov [501, 500] (op_bin bin_add q0 q1) <| ov [0] (op_indexAddr_lb Tryd.underlying150 Tryd.sizeOf51 q0 qi (by decide)) <| ov [500, 10] (op_load_lbI (i := 2) [] [] 1 Tryd.isAgg51 q0 rfl rfl (by decide)) <| ov [4] (op_move q0) <| ov [501, 500] (op_bin bin_add q0 q1) <| ov [0] (op_indexAddr_lb Tryd.underlying150 Tryd.sizeOf51 q0 qi (by decide)) <| ov [500, 10] (op_load_lbI (i := 3) [] [] 1 Tryd.isAgg51 q0 rfl rfl (by decide)) <| ov [5] (op_move q0) <| ov [501, 500] (op_bin bin_add q0 q1) <| ov [0] (op_indexAddr_lb Tryd.underlying150 Tryd.sizeOf51 q0 qi (by decide)) <| ov [500, 10] (op_load_lbI (i := 4) [] [] 1 Tryd.isAgg51 q0 rfl rfl (by decide)) <| ov [6] (op_move q0) <| ov [501, 500] (op_bin bin_add q0 q1) <| ov [0] (op_indexAddr_lb Tryd.underlying150 Tryd.sizeOf51 q0 qi (by decide)) <| ov [500, 10] (op_load_lbI (i := 5) [] [] 1 Tryd.isAgg51 q0 rfl rfl (by decide)) <| ov [7] (op_move q0) <| ov [501, 500] (op_bin bin_add q0 q1) <| ov [0] (op_indexAddr_lb Tryd.underlying150 Tryd.sizeOf51 q0 qi (by decide)) <| ov [500, 10] (op_load_lbI (i := 6) [] [] 1 Tryd.isAgg51 q0 rfl rfl (by decide)) <| ov [8] (op_move q0) <| ov [501, 500] (op_bin bin_add q0 q1) <| ov [0] (op_indexAddr_lb Tryd.underlying150 Tryd.sizeOf51 q0 qi (by decide)) <| ov [500, 10] (op_load_lbI (i := 7) [] [] 1 Tryd.isAgg51 q0 rfl rfl (by decide)) <| ov [9] (op_move q0) <| ov [501, 500] (op_bin bin_add q0 q1) <| ov [528, 524, 520, 516, 512, 508, 504, 500] (op_buildI (xs := [.tmp 201, .tmp 205, .tmp 209, .tmp 213, .tmp 217, .tmp 221, .tmp 225, .tmp 229]) (ys := [IntKind.wrap .u32 ((a_0.getD (0 : Int).toNat 0) + y118), IntKind.wrap .u32 ((a_0.getD (1 : Int).toNat 0) + y119), IntKind.wrap .u32 ((a_0.getD (2 : Int).toNat 0) + y120), IntKind.wrap .u32 ((a_0.getD (3 : Int).toNat 0) + y121), IntKind.wrap .u32 ((a_0.getD (4 : Int).toNat 0) + y122), IntKind.wrap .u32 ((a_0.getD (5 : Int).toNat 0) + y123), IntKind.wrap .u32 ((a_0.getD (6 : Int).toNat 0) + y124), IntKind.wrap .u32 ((a_0.getD (7 : Int).toNat 0) + y125)]) rfl bu150 ⟨⟨_, q0, (cells_one (one_int _ _))⟩, ⟨_, q1, (cells_one (one_int _ _))⟩, ⟨_, q2, (cells_one (one_int _ _))⟩, ⟨_, q3, (cells_one (one_int _ _))⟩, ⟨_, (opt 4 rfl), (cells_one (one_int _ _))⟩, ⟨_, (opt 5 rfl), (cells_one (one_int _ _))⟩, ⟨_, (opt 6 rfl), (cells_one (one_int _ _))⟩, ⟨_, (opt 7 rfl), (cells_one (one_int _ _))⟩, trivial⟩ (by decide) rfl) <| ou [1, 500] 11 (op_store_w Tryd.sizeOf150 q0 q1 (cells_agg _)) .nil) fun _ a w h => ?_
                refine wp_ret ?_
                obtain rfl := Option.some.inj hF
                exact ⟨.inl rfl, ret1 h Tryd.results101 (r_cell 0 1 rfl rfl Tryd.isAgg150 Tryd.sizeOf150 rfl) [] [] rfl rfl rfl⟩

def ref01_After.b1 (x7 : List (UInt8)) (x8 : List Int) : Option (Flow ((List Int) × (List (UInt8))) ((List (UInt8)) × (List Int))) := (if (decide ((64 : Int) ≤ (x7.length : Int))) = true then (if (0 : Int) ≤ 0 ∧ (0 : Int) ≤ 64 ∧ (64 : Int) ≤ x7.length then ((ref01_Block x8 ((x7.take 64).drop (0 : Int).toNat)).bind fun r17 => (if (0 : Int) ≤ 64 ∧ (64 : Int) ≤ (x7.length : Int) ∧ (x7.length : Int) ≤ x7.length then some (.cont ((x7.take (x7.length : Int).toNat).drop 64, r17)) else none)) else none) else some (.brk (x7, x8)))
def ref01_After (a_0 : List Int) (a_1 : List (UInt8)) : Option ((List Int) × (List (UInt8))) := ((loopN (fun s : (List (UInt8)) × (List Int) => ref01_After.b1 s.1 s.2) (((a_1.length : Int) - 64 : Int).toNat + 2) (a_1, a_0)).bind fun cr => match cr with | .ret r => some r | .next (y23, y24) => some (y24, y23))
theorem ref01_After_ok {a_0 : List Int} {a_1 : List (UInt8)} {r : (List Int) × (List (UInt8))} (hF : ref01_After a_0 a_1 = some r) : CallOk Tryd.prog KG 90 [(aggVP [intsCk .u32 8 a_0]), (slVP bC a_1)] [] (fun _ => []) (tupVP [(aggVP [intsCk .u32 8 r.1]), (slVP bC r.2)]) := by
  refine CallOk.intro 17 Tryd.func90 rfl Tryd.ntmps90 (Nat.le_of_ble_eq_true rfl) ?_
  intro c a w hG hn h
  unfold ref01_After at hF
  change SatL c [.slot 0 (aggVP [intsCk .u32 8 a_0]), .slot 1 (slVP bC a_1)] a w at h
  refine regS mixed hn hG h [1, 504, 502, 503, 501] (ob [0] (op_box q0 (cells_agg _)) <| ob [] (op_alloc Tryd.zeroValue150 z150) <| ov [] (op_assign (opc (ec _))) .nil) fun b1 a w h => ?_
  refine wp_seq ?_
  refine wp_block ?_
  obtain ⟨cr19, hl20, hF⟩ := bind_some hF
  refine wp_mono (wp_loopN (R := (List Int) × (List (UInt8))) (S := (List (UInt8)) × (List Int)) (fun s a w => SatL c [.slot 1 (slVP bC s.1), .slot 2 (lpVP (b1 0) 0), .slot 4 (lpVP (b1 1) 0), .res (lb (b1 0) 150 [intsCk .u32 8 s.2]), .res (lb (b1 1) 150 [intsCk .u32 8 (List.replicate 8 0)])] a w) (fun res e a w => match res with | .next s => e = .exit 0 ∧ SatL c [.slot 1 (slVP bC s.1), .slot 2 (lpVP (b1 0) 0), .slot 4 (lpVP (b1 1) 0), .res (lb (b1 0) 150 [intsCk .u32 8 s.2]), .res (lb (b1 1) 150 [intsCk .u32 8 (List.replicate 8 0)])] a w | .ret r => e = .ret ∧ RetOk Tryd.prog Tryd.f90 c (tupVP [(aggVP [intsCk .u32 8 r.1]), (slVP bC r.2)]) (fun _ => []) a w) ?_ _ (a_1, a_0) _ _ _ (h.sub [0, 1, 2, 3, 4] (by rfl)) hl20) ?_
  · clear hl20 hF h
    intro s a w o h hF
    obtain ⟨x7, x8⟩ := s
    change ref01_After.b1 x7 x8 = some o at hF
    unfold ref01_After.b1 at hF
    change SatL c [.slot 1 (slVP bC x7), .slot 2 (lpVP (b1 0) 0), .slot 4 (lpVP (b1 1) 0), .res (lb (b1 0) 150 [intsCk .u32 8 x8]), .res (lb (b1 1) 150 [intsCk .u32 8 (List.replicate 8 0)])] a w at h
    refine wp_seq ?_
    refine regS mixed hn hG h [0, 1, 2, 500, 3, 4] (ov [0] (op_move q0) <| ov [500] (op_len_sl Tryd.underlying129 q0) <| ov [500] (op_bin bin_geq q0 qi) .nil) fun _ a w h => ?_
    refine cnd h hF 3 [0, 1, 2, 4, 5] [0, 1, 2, 4, 5] (fun hb15 hF h => ?_) (fun hb15 hF h => ?_)
    · refine wp_skip ?_
      show Code.wp Tryd.prog _ _ a w
      refine wp_block ?_
      obtain ⟨hv16, hF⟩ := ite_some hF
      obtain ⟨r17, hr17, hF⟩ := bind_some hF
      refine regS mixed hn hG h [0, 1, 2, 500, 4] (ov [1, 3] (op_load_w 1 Tryd.isAgg150 Tryd.sizeOf150 q0) <| ov [0] (op_move q0) <| ov [500] (op_slice_sl (a := 0) (b := 64) Tryd.underlying129 Tryd.sizeOf5 lens_bC q0 rfl ⟨_, qi⟩ hv16) <| oc [502, 500] [] Tryd.call101 (ref01_Block_ok hr17) ⟨q0, q1, trivial⟩ <| ou [1, 500] 3 (op_store_w Tryd.sizeOf150 q0 q1 (cells_agg _)) .nil) fun _ a w h => ?_
      obtain ⟨hv18, hF⟩ := ite_some hF
      refine reg mixed hn hG h [500, 1, 2, 3, 4] (ov [0] (op_move q0) <| ov [500] (op_slice_sl (a := 64) (b := (x7.length : Int)) Tryd.underlying129 Tryd.sizeOf5 lens_bC q0 ⟨_, qi⟩ rfl hv18) <| od [500] 0 (op_assign q0) .nil) fun _ a w h => ?_
      obtain rfl := Option.some.inj hF
      exact ⟨rfl, h.sub [0, 1, 2, 3, 4] (by rfl)⟩
    · refine wp_exit ?_
      obtain rfl := Option.some.inj hF
      exact ⟨exit_ne _, rfl, h.sub [0, 1, 2, 3, 4] (by rfl)⟩
  · clear hl20
    intro e a w hq
    cases cr19 with
    | ret r21 =>
      obtain ⟨rfl, hq⟩ := hq
      obtain rfl := Option.some.inj hF
      exact ⟨.inl rfl, hq⟩
    | next s22 =>
      obtain ⟨y23, y24⟩ := s22
      obtain ⟨rfl, h⟩ := hq
      change SatL c [.slot 1 (slVP bC y23), .slot 2 (lpVP (b1 0) 0), .slot 4 (lpVP (b1 1) 0), .res (lb (b1 0) 150 [intsCk .u32 8 y24]), .res (lb (b1 1) 150 [intsCk .u32 8 (List.replicate 8 0)])] a w at h
      refine inBlock_at ?_
      show Code.wp Tryd.prog _ _ a w
      refine regS mixed hn hG h [2, 500, 501] (ov [1, 3] (op_load_w 1 Tryd.isAgg150 Tryd.sizeOf150 q0) <| ov [0] (op_move q0) <| ou [2, 501] 4 (op_store_w Tryd.sizeOf150 q0 q1 (cells_agg _)) <| ov [501] (op_assign q0) .nil) fun _ a w h => ?_
      refine wp_ret ?_
      obtain rfl := Option.some.inj hF
      exact ⟨.inl rfl, retn h (rs := [.cell 4 150, .tmp 5]) (Vs := [(aggVP [intsCk .u32 8 y24]), (slVP bC y23)]) Tryd.results90 (by decide) ⟨(r_cell 0 2 rfl rfl Tryd.isAgg150 Tryd.sizeOf150 rfl), (r_tmp 1 rfl), trivial⟩ [] [] rfl rfl rfl⟩

def ref01_First : Option (List Int) := some ([1779033703, 3144134277, 1013904242, 2773480762, 1359893119, 2600822924, 528734635, 1541459225] ++ List.replicate (8 - 8) 0)
theorem ref01_First_ok {r : (List Int)} (hF : ref01_First = some r) : CallOk Tryd.prog KG 91 [] [] (fun _ => []) (aggVP [intsCk .u32 8 r]) := by
  refine CallOk.intro 2 Tryd.func91 rfl Tryd.ntmps91 (Nat.le_of_ble_eq_true rfl) ?_
  intro c a w hG hn h
  unfold ref01_First at hF
  change SatL c [] a w at h
  refine regS mixed hn hG h [501, 500] (ob [] (op_alloc Tryd.zeroValue150 z150) .nil) fun b1 a w h => ?_
  refine regS mixed hn hG h [0, 500] (ov [] (op_buildI (xs := [.const (.int .u32 1779033703), .const (.int .u32 3144134277), .const (.int .u32 1013904242), .const (.int .u32 2773480762), .const (.int .u32 1359893119), .const (.int .u32 2600822924), .const (.int .u32 528734635), .const (.int .u32 1541459225)]) (ys := [1779033703, 3144134277, 1013904242, 2773480762, 1359893119, 2600822924, 528734635, 1541459225]) rfl bu150 ⟨⟨_, qi, (cells_one (one_int _ _))⟩, ⟨_, qi, (cells_one (one_int _ _))⟩, ⟨_, qi, (cells_one (one_int _ _))⟩, ⟨_, qi, (cells_one (one_int _ _))⟩, ⟨_, qi, (cells_one (one_int _ _))⟩, ⟨_, qi, (cells_one (one_int _ _))⟩, ⟨_, qi, (cells_one (one_int _ _))⟩, ⟨_, qi, (cells_one (one_int _ _))⟩, trivial⟩ (by decide) rfl) <| ou [0, 500] 1 (op_store_w Tryd.sizeOf150 q0 q1 (cells_agg _)) .nil) fun _ a w h => ?_
  refine wp_ret ?_
  obtain rfl := Option.some.inj hF
  exact ⟨.inl rfl, ret1 h Tryd.results91 (r_cell 0 1 rfl rfl Tryd.isAgg150 Tryd.sizeOf150 rfl) [] [] rfl rfl rfl⟩

def ref01_End.b1 (x11 : List (UInt8)) : Option (Flow (List UInt8) (List (UInt8))) := (if (!decide (((x11.length : Int).tmod 64) = (56 : Int))) = true then (if x11.length + [u8of 0].length ≤ mxl ∧ (x11.length + [u8of 0].length) * 1 ≤ 140737488355328 then some (.cont (x11 ++ [u8of 0])) else none) else some (.brk x11))
def ref01_End.b2 (a_2 : Int) (x29 : Int) (x30 : List (UInt8)) : Option (Flow (List UInt8) (Int × (List (UInt8)))) := (if (decide (x29 < (8 : Int))) = true then (if x30.length + [u8of (IntKind.wrap .u8 (shr .u64 (IntKind.wrap .u64 (8 * a_2)) (IntKind.wrap .u64 (IntKind.wrap .i64 (56 - (IntKind.wrap .i64 (8 * x29)))))))].length ≤ mxl ∧ (x30.length + [u8of (IntKind.wrap .u8 (shr .u64 (IntKind.wrap .u64 (8 * a_2)) (IntKind.wrap .u64 (IntKind.wrap .i64 (56 - (IntKind.wrap .i64 (8 * x29)))))))].length) * 1 ≤ 140737488355328 then some (.cont (IntKind.wrap .i64 (x29 + 1), x30 ++ [u8of (IntKind.wrap .u8 (shr .u64 (IntKind.wrap .u64 (8 * a_2)) (IntKind.wrap .u64 (IntKind.wrap .i64 (56 - (IntKind.wrap .i64 (8 * x29)))))))])) else none) else some (.brk (x29, x30)))
def ref01_End.b3 (r47 : (List Int) × (List (UInt8))) (x51 : Int) (x52 : List UInt8) : Option (Flow (List UInt8) (Int × (List UInt8))) := (if (decide (x51 < (32 : Int))) = true then (if (0 : Int) ≤ IntKind.wrap .i64 (x51.tdiv 4) ∧ IntKind.wrap .i64 (x51.tdiv 4) < 8 then (if (0 : Int) ≤ x51 ∧ x51 < 32 then some (.cont (IntKind.wrap .i64 (x51 + 1), x52.set x51.toNat (u8of (IntKind.wrap .u8 (shr .u32 (r47.1.getD (IntKind.wrap .i64 (x51.tdiv 4)).toNat 0) (IntKind.wrap .u64 (IntKind.wrap .i64 (24 - (IntKind.wrap .i64 (8 * (x51.tmod 4))))))))))) else none) else none) else some (.brk (x51, x52)))
def ref01_End (a_0 : List Int) (a_1 : List (UInt8)) (a_2 : Int) : Option (List UInt8) := (if ([] : List UInt8).length + a_1.length ≤ mxl ∧ (([] : List UInt8).length + a_1.length) * 1 ≤ 140737488355328 then (if (([] : List UInt8) ++ a_1).length + [u8of 128].length ≤ mxl ∧ ((([] : List UInt8) ++ a_1).length + [u8of 128].length) * 1 ≤ 140737488355328 then ((loopN (fun s : (List (UInt8)) => ref01_End.b1 s) 100000 ((([] : List UInt8) ++ a_1) ++ [u8of 128])).bind fun cr => match cr with | .ret r => some r | .next y25 => ((loopN (fun s : Int × (List (UInt8)) => ref01_End.b2 a_2 s.1 s.2) ((8 - 0 : Int).toNat + 2) (0, y25)).bind fun cr => match cr with | .ret r => some r | .next (y45, y46) => ((ref01_After a_0 y46).bind fun r47 => ((loopN (fun s : Int × (List UInt8) => ref01_End.b3 r47 s.1 s.2) ((32 - 0 : Int).toNat + 2) (0, (List.replicate 32 0))).bind fun cr => match cr with | .ret r => some r | .next (y65, y66) => some y66)))) else none) else none)
theorem ref01_End_ok {a_0 : List Int} {a_1 : List (UInt8)} {a_2 : Int} {r : (List UInt8)} (hF : ref01_End a_0 a_1 a_2 = some r) : CallOk Tryd.prog KG 92 [(aggVP [intsCk .u32 8 a_0]), (slVP bC a_1), (intVP .u64 a_2)] [] (fun _ => []) (aggVP [bytesCk 32 r]) := by
  refine CallOk.intro 65 Tryd.func92 rfl Tryd.ntmps92 (Nat.le_of_ble_eq_true rfl) ?_
  intro c a w hG hn h
  unfold ref01_End at hF
  change SatL c [.slot 0 (aggVP [intsCk .u32 8 a_0]), .slot 1 (slVP bC a_1), .slot 2 (intVP .u64 a_2)] a w at h
  refine regS mixed hn hG h [1, 2, 503, 501, 502, 500] (ob [0] (op_box q0 (cells_agg _)) <| ob [] (op_alloc Tryd.zeroValue23 z23) .nil) fun b1 a w h => ?_
  refine regS mixed hn hG h [0, 1, 2, 3, 500, 4, 5] (ov [] (op_assign (opc (ec _))) .nil) fun _ a w h => ?_
  obtain ⟨q3, h⟩ : ∃ q3 : Value, SatL c [.slot 1 (slVP bC a_1), .slot 2 (intVP .u64 a_2), .slot 3 (lpVP (b1 0) 0), .slot 6 (lpVP (b1 1) 0), .slot 7 (eqVP q3), .res (lb (b1 0) 150 [intsCk .u32 8 a_0]), .res (lb (b1 1) 23 [bytesCk 32 (List.replicate 32 0)]), .res (acc q3 5 1 bC ([] : List UInt8))] a w := ⟨.slice none 0 0, (h.nilacc 5 1 bC).sub [0, 1, 2, 3, 4, 5, 6, 7] (by rfl)⟩
  obtain ⟨hv4, hF⟩ := ite_some hF
  refine regS mixed hn hG h [1, 2, 3, 500, 5, 6, 501] (ov [4] (op_move q0) <| ov [0] (op_move q0) <| og [501, 500] [7] [.slot 14 2 100000 (fun v1_ _ => (eqVP v1_)), .res 2 100000 (fun v1_ _ => (acc (v1_) 5 1 bC (([] : List UInt8) ++ a_1)))] (GOk.plain (op_append (i := Tryd.t5) Tryd.underlying129 Tryd.type5 rfl lens_bC (by decide) rfl q0 q1 hv4) rfl) <| og [501] [4] [.slot 7 2 100000 (fun v1_ _ => (eqVP v1_))] (fun {β} => (GOk.drop _ (GOk.plain (op_assign (V := (eqVP (β 2))) q0) rfl))) .nil) fun b5 a w h => ?_
  obtain ⟨hv6, hF⟩ := ite_some hF
  refine regS mixed hn hG h [0, 1, 2, 500, 4, 5, 501] (ov [3] (op_move q0) <| ov [] (op_lit (xs := [.const (.int .u8 128)]) (ys := [u8of 128]) _ rfl Tryd.underlying129 Tryd.sizeOf5 Tryd.zeroValue5 rfl rfl (by decide) (by decide) ⟨⟨_, qi, (cells_u8 _)⟩, trivial⟩ lens_bC) <| og [501, 500] [6] [.slot 17 2 100000 (fun v1_ _ => (eqVP v1_)), .res 2 100000 (fun v1_ _ => (acc (v1_) 5 1 bC ((([] : List UInt8) ++ a_1) ++ [u8of 128])))] (GOk.plain (op_append (i := Tryd.t5) Tryd.underlying129 Tryd.type5 rfl lens_bC (by decide) rfl q0 q1 hv6) rfl) <| og [501] [3] [.slot 7 2 100000 (fun v1_ _ => (eqVP v1_))] (fun {β} => (GOk.drop _ (GOk.plain (op_assign (V := (eqVP (β 2))) q0) rfl))) .nil) fun b7 a w h => ?_
  refine wp_seq ?_
  refine wp_block ?_
  obtain ⟨cr21, hl22, hF⟩ := bind_some hF
  refine wp_mono (wp_loopN (R := (List UInt8)) (S := (List (UInt8))) (fun s a w => ∃ q12 : Value, SatL c [.slot 2 (intVP .u64 a_2), .slot 3 (lpVP (b1 0) 0), .slot 6 (lpVP (b1 1) 0), .slot 7 (eqVP q12), .res (lb (b1 0) 150 [intsCk .u32 8 a_0]), .res (lb (b1 1) 23 [bytesCk 32 (List.replicate 32 0)]), .res (acc q12 5 1 bC s)] a w) (fun res e a w => match res with | .next s => e = .exit 0 ∧ ∃ q12 : Value, SatL c [.slot 2 (intVP .u64 a_2), .slot 3 (lpVP (b1 0) 0), .slot 6 (lpVP (b1 1) 0), .slot 7 (eqVP q12), .res (lb (b1 0) 150 [intsCk .u32 8 a_0]), .res (lb (b1 1) 23 [bytesCk 32 (List.replicate 32 0)]), .res (acc q12 5 1 bC s)] a w | .ret r => e = .ret ∧ RetOk Tryd.prog Tryd.f92 c (aggVP [bytesCk 32 r]) (fun _ => []) a w) ?_ _ ((([] : List UInt8) ++ a_1) ++ [u8of 128]) _ _ _ ⟨(b7 2), (h.sub [0, 1, 2, 3, 4, 5, 6] (by rfl))⟩ hl22) ?_
  · clear hl22 hF h
    intro x11 a w o h hF
    obtain ⟨q12, h⟩ := h
    change ref01_End.b1 x11 = some o at hF
    unfold ref01_End.b1 at hF
    change SatL c [.slot 2 (intVP .u64 a_2), .slot 3 (lpVP (b1 0) 0), .slot 6 (lpVP (b1 1) 0), .slot 7 (eqVP q12), .res (lb (b1 0) 150 [intsCk .u32 8 a_0]), .res (lb (b1 1) 23 [bytesCk 32 (List.replicate 32 0)]), .res (acc q12 5 1 bC x11)] a w at h
    refine wp_seq ?_
    refine regS mixed hn hG h [0, 1, 2, 3, 500, 4, 5, 6] (ov [3] (op_move q0) <| ov [500, 6] (op_len_sl Tryd.underlying129 (opacc 0 1 rfl rfl)) <| ov [500] (op_bin (bin_rem (by decide)) q0 qi) <| ov [500] (op_bin bin_neq q0 qi) .nil) fun _ a w h => ?_
    refine cnd h hF 4 [0, 1, 2, 3, 5, 6, 7] [0, 1, 2, 3, 5, 6, 7] (fun hb18 hF h => ?_) (fun hb18 hF h => ?_)
    · refine wp_skip ?_
      show Code.wp Tryd.prog _ _ a w
      refine wp_block ?_
      obtain ⟨hv19, hF⟩ := ite_some hF
      refine reg mixed hn hG h [0, 1, 2, 500, 4, 5, 501] (ov [3] (op_move q0) <| ov [] (op_lit (xs := [.const (.int .u8 0)]) (ys := [u8of 0]) _ rfl Tryd.underlying129 Tryd.sizeOf5 Tryd.zeroValue5 rfl rfl (by decide) (by decide) ⟨⟨_, qi, (cells_u8 _)⟩, trivial⟩ lens_bC) <| og [501, 500] [6] [.slot 24 2 100000 (fun v1_ _ => (eqVP v1_)), .res 2 100000 (fun v1_ _ => (acc (v1_) 5 1 bC (x11 ++ [u8of 0])))] (GOk.plain (op_append (i := Tryd.t5) Tryd.underlying129 Tryd.type5 rfl lens_bC (by decide) rfl q0 q1 hv19) rfl) <| og [501] [3] [.slot 7 2 100000 (fun v1_ _ => (eqVP v1_))] (fun {β} => (GOk.drop _ (GOk.plain (op_assign (V := (eqVP (β 2))) q0) rfl))) .nil) fun b20 a w h => ?_
      obtain rfl := Option.some.inj hF
      exact ⟨rfl, (b20 2), h.sub [0, 1, 2, 3, 4, 5, 6] (by rfl)⟩
    · refine wp_exit ?_
      obtain rfl := Option.some.inj hF
      exact ⟨exit_ne _, rfl, q12, h.sub [0, 1, 2, 3, 4, 5, 6] (by rfl)⟩
  · clear hl22
    intro e a w hq
    cases cr21 with
    | ret r23 =>
      obtain ⟨rfl, hq⟩ := hq
      obtain rfl := Option.some.inj hF
      exact ⟨.inl rfl, hq⟩
    | next y25 =>
      obtain ⟨rfl, q12, h⟩ := hq
      change SatL c [.slot 2 (intVP .u64 a_2), .slot 3 (lpVP (b1 0) 0), .slot 6 (lpVP (b1 1) 0), .slot 7 (eqVP q12), .res (lb (b1 0) 150 [intsCk .u32 8 a_0]), .res (lb (b1 1) 23 [bytesCk 32 (List.replicate 32 0)]), .res (acc q12 5 1 bC y25)] a w at h
      refine inBlock_at ?_
      show Code.wp Tryd.prog _ _ a w
      refine regS mixed hn hG h [1, 2, 3, 500, 4, 5, 6] (ov [0] (op_move q0) <| ov [500] (op_bin bin_mul qi q0) <| ov [500] (op_assign q0) .nil) fun _ a w h => ?_
      refine wp_seq ?_
      refine regS mixed hn hG h [0, 1, 2, 3, 500, 4, 5, 6] (ov [] (op_assign qi) .nil) fun _ a w h => ?_
      refine wp_block ?_
      obtain ⟨cr41, hl42, hF⟩ := bind_some hF
      refine wp_mono (wp_loopN (R := (List UInt8)) (S := Int × (List (UInt8))) (fun s a w => ∃ q31 : Value, SatL c [.slot 3 (lpVP (b1 0) 0), .slot 6 (lpVP (b1 1) 0), .slot 7 (eqVP q31), .slot 8 (intVP .u64 (IntKind.wrap .u64 (8 * a_2))), .slot 9 (intVP .i64 s.1), .res (lb (b1 0) 150 [intsCk .u32 8 a_0]), .res (lb (b1 1) 23 [bytesCk 32 (List.replicate 32 0)]), .res (acc q31 5 1 bC s.2)] a w) (fun res e a w => match res with | .next s => e = .exit 2 ∧ ∃ q31 : Value, SatL c [.slot 3 (lpVP (b1 0) 0), .slot 6 (lpVP (b1 1) 0), .slot 7 (eqVP q31), .res (lb (b1 0) 150 [intsCk .u32 8 a_0]), .res (lb (b1 1) 23 [bytesCk 32 (List.replicate 32 0)]), .res (acc q31 5 1 bC s.2)] a w | .ret r => e = .ret ∧ RetOk Tryd.prog Tryd.f92 c (aggVP [bytesCk 32 r]) (fun _ => []) a w) ?_ _ (0, y25) _ _ _ ⟨q12, (h.sub [0, 1, 2, 3, 4, 5, 6, 7] (by rfl))⟩ hl42) ?_
      · clear hl42 hF h
        intro s a w o h hF
        obtain ⟨x29, x30⟩ := s
        obtain ⟨q31, h⟩ := h
        change ref01_End.b2 a_2 x29 x30 = some o at hF
        unfold ref01_End.b2 at hF
        change SatL c [.slot 3 (lpVP (b1 0) 0), .slot 6 (lpVP (b1 1) 0), .slot 7 (eqVP q31), .slot 8 (intVP .u64 (IntKind.wrap .u64 (8 * a_2))), .slot 9 (intVP .i64 x29), .res (lb (b1 0) 150 [intsCk .u32 8 a_0]), .res (lb (b1 1) 23 [bytesCk 32 (List.replicate 32 0)]), .res (acc q31 5 1 bC x30)] a w at h
        refine wp_seq ?_
        refine regS mixed hn hG h [0, 1, 2, 3, 4, 500, 5, 6, 7] (ov [4] (op_move q0) <| ov [500] (op_bin bin_lss q0 qi) .nil) fun _ a w h => ?_
        refine cnd h hF 5 [0, 1, 2, 3, 4, 6, 7, 8] [0, 1, 2, 3, 4, 6, 7, 8] (fun hb38 hF h => ?_) (fun hb38 hF h => ?_)
        · refine wp_skip ?_
          show Code.wp Tryd.prog _ _ a w
          refine wp_seq ?_
          refine wp_block ?_
          obtain ⟨hv39, hF⟩ := ite_some hF
          refine reg mixed hn hG h [0, 1, 500, 3, 4, 5, 6, 501] (ov [2] (op_move q0) <| ov [3] (op_move q0) <| ov [4] (op_move q0) <| ov [500] (op_bin bin_mul qi q0) <| ov [500] (op_bin bin_sub qi q0) <| ov [500] (op_convert_int Tryd.underlying3 Tryd.underlying128 q0) <| ov [504, 500] (op_bin (bin_shru rfl) q0 q1) <| ov [500] (op_convert_int Tryd.underlying114 Tryd.underlying5 q0) <| ov [500] (op_lit (xs := [.tmp 38]) (ys := [u8of (IntKind.wrap .u8 (shr .u64 (IntKind.wrap .u64 (8 * a_2)) (IntKind.wrap .u64 (IntKind.wrap .i64 (56 - (IntKind.wrap .i64 (8 * x29)))))))]) _ rfl Tryd.underlying129 Tryd.sizeOf5 Tryd.zeroValue5 rfl rfl (by decide) (by decide) ⟨⟨_, q0, (cells_u8 _)⟩, trivial⟩ lens_bC) <| og [508, 500] [7] [.slot 40 9 100000 (fun v1_ _ => (eqVP v1_)), .res 9 100000 (fun v1_ _ => (acc (v1_) 5 1 bC (x30 ++ [u8of (IntKind.wrap .u8 (shr .u64 (IntKind.wrap .u64 (8 * a_2)) (IntKind.wrap .u64 (IntKind.wrap .i64 (56 - (IntKind.wrap .i64 (8 * x29)))))))])))] (GOk.plain (op_append (i := Tryd.t5) Tryd.underlying129 Tryd.type5 rfl lens_bC (by decide) rfl q0 q1 hv39) rfl) <| og [501] [2] [.slot 7 9 100000 (fun v1_ _ => (eqVP v1_))] (fun {β} => (GOk.drop _ (GOk.plain (op_assign (V := (eqVP (β 9))) q0) rfl))) .nil) fun b40 a w h => ?_
          show Code.wp Tryd.prog _ _ a w
          refine reg mixed hn hG h [0, 1, 2, 3, 500, 5, 6, 7] (ov [4] (op_move q0) <| ov [500] (op_bin bin_add q0 qi) <| od [500] 4 (op_assign q0) .nil) fun _ a w h => ?_
          obtain rfl := Option.some.inj hF
          exact ⟨rfl, (b40 9), h.sub [0, 1, 2, 3, 4, 5, 6, 7] (by rfl)⟩
        · refine wp_exit ?_
          obtain rfl := Option.some.inj hF
          exact ⟨exit_ne _, rfl, q31, h.sub [0, 1, 2, 5, 6, 7] (by rfl)⟩
      · clear hl42
        intro e a w hq
        cases cr41 with
        | ret r43 =>
          obtain ⟨rfl, hq⟩ := hq
          obtain rfl := Option.some.inj hF
          exact ⟨.inl rfl, hq⟩
        | next s44 =>
          obtain ⟨y45, y46⟩ := s44
          obtain ⟨rfl, q31, h⟩ := hq
          change SatL c [.slot 3 (lpVP (b1 0) 0), .slot 6 (lpVP (b1 1) 0), .slot 7 (eqVP q31), .res (lb (b1 0) 150 [intsCk .u32 8 a_0]), .res (lb (b1 1) 23 [bytesCk 32 (List.replicate 32 0)]), .res (acc q31 5 1 bC y46)] a w at h
          refine inBlock_at ?_
          show Code.wp Tryd.prog _ _ a w
          obtain ⟨r47, hr47, hF⟩ := bind_some hF
          refine regS mixed hn hG h [0, 1, 500, 4] (ov [0, 3] (op_load_w 1 Tryd.isAgg150 Tryd.sizeOf150 q0) <| ov [2] (op_move q0) <| oc [501, 500, 5] [] Tryd.call90 (ref01_After_ok hr47) ⟨q0, (opacc 1 2 rfl rfl), trivial⟩ <| ov [500] (op_move q0) <| ov [500] (op_extract q0 rfl) <| ov [501] (op_extract q0 rfl) <| ou [0, 501] 3 (op_store_w Tryd.sizeOf150 q0 q1 (cells_agg _)) .nil) fun _ a w h => ?_
          refine regS mixed hn hG h [0, 1, 501, 2, 3, 500] (ob [] (op_alloc Tryd.zeroValue23 z23) .nil) fun b48 a w h => ?_
          refine wp_seq ?_
          refine regS mixed hn hG h [0, 1, 2, 500, 3, 4, 5] (ov [] (op_assign qi) .nil) fun _ a w h => ?_
          refine wp_block ?_
          obtain ⟨cr61, hl62, hF⟩ := bind_some hF
          refine wp_mono (wp_loopN (R := (List UInt8)) (S := Int × (List UInt8)) (fun s a w => SatL c [.slot 3 (lpVP (b1 0) 0), .slot 6 (lpVP (b1 1) 0), .slot 10 (lpVP (b48 0) 0), .slot 11 (intVP .i64 s.1), .res (lb (b1 0) 150 [intsCk .u32 8 r47.1]), .res (lb (b1 1) 23 [bytesCk 32 (List.replicate 32 0)]), .res (lb (b48 0) 23 [bytesCk 32 s.2])] a w) (fun res e a w => match res with | .next s => e = .exit 4 ∧ SatL c [.slot 6 (lpVP (b1 1) 0), .slot 10 (lpVP (b48 0) 0), .res (lb (b1 1) 23 [bytesCk 32 (List.replicate 32 0)]), .res (lb (b48 0) 23 [bytesCk 32 s.2])] a w | .ret r => e = .ret ∧ RetOk Tryd.prog Tryd.f92 c (aggVP [bytesCk 32 r]) (fun _ => []) a w) ?_ _ (0, (List.replicate 32 0)) _ _ _ (h.sub [0, 1, 2, 3, 4, 5, 6] (by rfl)) hl62) ?_
          · clear hl62 hF h
            intro s a w o h hF
            obtain ⟨x51, x52⟩ := s
            change ref01_End.b3 r47 x51 x52 = some o at hF
            unfold ref01_End.b3 at hF
            change SatL c [.slot 3 (lpVP (b1 0) 0), .slot 6 (lpVP (b1 1) 0), .slot 10 (lpVP (b48 0) 0), .slot 11 (intVP .i64 x51), .res (lb (b1 0) 150 [intsCk .u32 8 r47.1]), .res (lb (b1 1) 23 [bytesCk 32 (List.replicate 32 0)]), .res (lb (b48 0) 23 [bytesCk 32 x52])] a w at h
            refine wp_seq ?_
            refine regS mixed hn hG h [0, 1, 2, 3, 500, 4, 5, 6] (ov [3] (op_move q0) <| ov [500] (op_bin bin_lss q0 qi) .nil) fun _ a w h => ?_
            refine cnd h hF 4 [0, 1, 2, 3, 5, 6, 7] [0, 1, 2, 3, 5, 6, 7] (fun hb58 hF h => ?_) (fun hb58 hF h => ?_)
            · refine wp_skip ?_
              show Code.wp Tryd.prog _ _ a w
              refine wp_seq ?_
              refine wp_block ?_
              obtain ⟨hv59, hF⟩ := ite_some hF
              obtain ⟨hv60, hF⟩ := ite_some hF
              refine reg mixed hn hG h [0, 1, 2, 3, 4, 5, 500] (ov [3] (op_move q0) <| ov [3] (op_move q0) <| ov [500] (op_bin (bin_quo (by decide)) q0 qi) <| ov [0, 500] (op_indexAddr_lb Tryd.underlying150 Tryd.sizeOf51 q0 q1 hv59) <| ov [500, 4] (op_load_lbI (i := IntKind.wrap .i64 (x51.tdiv 4)) [] [] 1 Tryd.isAgg51 q0 rfl rfl hv59) <| ov [3] (op_move q0) <| ov [500] (op_bin (bin_rem (by decide)) q0 qi) <| ov [500] (op_bin bin_mul qi q0) <| ov [500] (op_bin bin_sub qi q0) <| ov [500] (op_convert_int Tryd.underlying3 Tryd.underlying128 q0) <| ov [505, 500] (op_bin (bin_shru rfl) q0 q1) <| ov [500] (op_convert_int Tryd.underlying51 Tryd.underlying5 q0) <| ov [2, 511] (op_indexAddr_lb Tryd.underlying23 Tryd.sizeOf5 q0 q1 hv60) <| ou [500, 501] 6 (op_store_lbB (i := x51) [] [] Tryd.sizeOf5 q0 q1 rfl hv60) .nil) fun _ a w h => ?_
              show Code.wp Tryd.prog _ _ a w
              refine reg mixed hn hG h [0, 1, 2, 500, 4, 5, 6] (ov [3] (op_move q0) <| ov [500] (op_bin bin_add q0 qi) <| od [500] 3 (op_assign q0) .nil) fun _ a w h => ?_
              obtain rfl := Option.some.inj hF
              exact ⟨rfl, h.sub [0, 1, 2, 3, 4, 5, 6] (by rfl)⟩
            · refine wp_exit ?_
              obtain rfl := Option.some.inj hF
              exact ⟨exit_ne _, rfl, h.sub [1, 2, 5, 6] (by rfl)⟩
          · clear hl62
            intro e a w hq
            cases cr61 with
            | ret r63 =>
              obtain ⟨rfl, hq⟩ := hq
              obtain rfl := Option.some.inj hF
              exact ⟨.inl rfl, hq⟩
            | next s64 =>
              obtain ⟨y65, y66⟩ := s64
              obtain ⟨rfl, h⟩ := hq
              change SatL c [.slot 6 (lpVP (b1 1) 0), .slot 10 (lpVP (b48 0) 0), .res (lb (b1 1) 23 [bytesCk 32 (List.replicate 32 0)]), .res (lb (b48 0) 23 [bytesCk 32 y66])] a w at h
              refine inBlock_at ?_
              show Code.wp Tryd.prog _ _ a w
              refine regS mixed hn hG h [0, 500] (ov [1, 3] (op_load_w 1 Tryd.isAgg23 Tryd.sizeOf23 q0) <| ou [0, 500] 2 (op_store_w Tryd.sizeOf23 q0 q1 (cells_agg _)) .nil) fun _ a w h => ?_
              refine wp_ret ?_
              obtain rfl := Option.some.inj hF
              exact ⟨.inl rfl, ret1 h Tryd.results92 (r_cell 0 1 rfl rfl Tryd.isAgg23 Tryd.sizeOf23 rfl) [] [] rfl rfl rfl⟩

def ref01_Sum (a_0 : List UInt8) : Option (List UInt8) := ((ref01_First).bind fun r2 => ((ref01_After r2 a_0).bind fun r3 => ((ref01_End r3.1 r3.2 (IntKind.wrap .u64 (a_0.length : Int))).bind fun r5 => some r5)))
theorem ref01_Sum_ok {a_0 : List UInt8} {r : (List UInt8)} (hF : ref01_Sum a_0 = some r) : CallOk Tryd.prog KG 78 [(strVP a_0)] [] (fun _ => []) (aggVP [bytesCk 32 r]) := by
  refine CallOk.intro 18 Tryd.func78 rfl Tryd.ntmps78 (Nat.le_of_ble_eq_true rfl) ?_
  intro c a w hG hn h
  unfold ref01_Sum at hF
  change SatL c [.slot 0 (strVP a_0)] a w at h
  refine regS mixed hn hG h [0, 501, 500] (ob [] (op_alloc Tryd.zeroValue23 z23) .nil) fun b1 a w h => ?_
  obtain ⟨r2, hr2, hF⟩ := bind_some hF
  obtain ⟨r3, hr3, hF⟩ := bind_some hF
  refine regS mixed hn hG h [0, 1, 503, 500, 2, 501] (oc [] [] Tryd.call91 (ref01_First_ok hr2) trivial <| ov [0] (op_move q0) <| ov [500] (op_conv_str_sl Tryd.underlying9 Tryd.underlying129 Tryd.underlying5 q0) <| oc [502, 500] [] Tryd.call90 (ref01_After_ok hr3) ⟨q0, q1, trivial⟩ <| ov [500] (op_move q0) <| ov [500] (op_extract q0 rfl) <| ov [501] (op_extract q0 rfl) <| ob [] (op_alloc Tryd.zeroValue150 z150) <| og [501, 503] [500] [.res 7 100000 (fun v1_ _ => (lb (v1_) 150 [intsCk .u32 8 r3.1]))] (GOk.plain (op_store_w Tryd.sizeOf150 q0 q1 (cells_agg _)) rfl) <| ov [503] (op_assign q0) .nil) fun b4 a w h => ?_
  obtain ⟨r5, hr5, hF⟩ := bind_some hF
  refine regS mixed hn hG h [1, 500] (ov [2, 5] (op_load_w 1 Tryd.isAgg150 Tryd.sizeOf150 q0) <| ov [3] (op_move q0) <| ov [0] (op_move q0) <| ov [500] (op_len_str Tryd.underlying9 q0) <| ov [500] (op_convert_int Tryd.underlying3 Tryd.underlying114 q0) <| oc [504, 503, 500] [] Tryd.call92 (ref01_End_ok hr5) ⟨q0, q1, q2, trivial⟩ <| ou [1, 500] 4 (op_store_w Tryd.sizeOf23 q0 q1 (cells_agg _)) .nil) fun _ a w h => ?_
  refine wp_ret ?_
  obtain rfl := Option.some.inj hF
  exact ⟨.inl rfl, ret1 h Tryd.results78 (r_cell 0 1 rfl rfl Tryd.isAgg23 Tryd.sizeOf23 rfl) [] [] rfl rfl rfl⟩

def ref04_Log_Note.n (a_1 : List UInt8) (a_2 : List UInt8) : Option (Option O_RLog) := some none
def ref04_Log_Note.b1 (s_0 : O_RLog) (a_1 : List UInt8) (a_2 : List UInt8) (x8 : Int) : Option (Flow (Option O_RLog) Int) := (if (decide (x8 < (((lkp a_1 s_0.f_Digests).getD []).length : Int))) = true then (if (0 : Int) ≤ x8 ∧ x8 < ((lkp a_1 s_0.f_Digests).getD []).length then (if (decide ((((lkp a_1 s_0.f_Digests).getD []).getD x8.toNat default) = a_2)) = true then some (.ret (some s_0)) else some (.cont (IntKind.wrap .i64 (x8 + 1)))) else none) else some (.brk x8))
def ref04_Log_Note.s (s_0 : O_RLog) (a_1 : List UInt8) (a_2 : List UInt8) : Option (Option O_RLog) := ((loopN (fun s : Int => ref04_Log_Note.b1 s_0 a_1 a_2 s) (((((lkp a_1 s_0.f_Digests).getD []).length : Int) - 0 : Int).toNat + 2) 0).bind fun cr => match cr with | .ret r => some r | .next y20 => (if ((lkp a_1 s_0.f_Digests).getD ([] : List (List UInt8))).length + [a_2].length ≤ mxl ∧ (((lkp a_1 s_0.f_Digests).getD ([] : List (List UInt8))).length + [a_2].length) * 16 ≤ 140737488355328 then (if s_0.f_Inputs.length + [a_2].length ≤ mxl ∧ (s_0.f_Inputs.length + [a_2].length) * 16 ≤ 140737488355328 then some (some ⟨s_0.f_Inputs ++ [a_2], upd a_1 (((lkp a_1 s_0.f_Digests).getD ([] : List (List UInt8))) ++ [a_2]) (ens a_1 ([] : List (List UInt8)) s_0.f_Digests)⟩) else none) else none))
def ref04_Log_Note (L_0 : Option O_RLog) (a_1 : List UInt8) (a_2 : List UInt8) : Option (Option O_RLog) := match L_0 with | none => ref04_Log_Note.n a_1 a_2 | some s_0 => ref04_Log_Note.s s_0 a_1 a_2
theorem ref04_Log_Note_ok {p_0 : Value} {L_0 : Option O_RLog} {a_1 : List UInt8} {a_2 : List UInt8} {r : (Option O_RLog)} (hF : ref04_Log_Note L_0 a_1 a_2 = some r) : CallOk Tryd.prog KG 79 [(eqVP p_0), (aggVP [bytesCk 32 a_1]), (strVP a_2)] [(RLog_e p_0 L_0)] (fun _ => [RLog_e p_0 r]) (tupVP []) := by
  refine CallOk.intro 46 Tryd.func79 rfl Tryd.ntmps79 (Nat.le_of_ble_eq_true rfl) ?_
  intro c a w hG hn h
  unfold ref04_Log_Note at hF
  change SatL c [.slot 0 (eqVP p_0), .slot 1 (aggVP [bytesCk 32 a_1]), .slot 2 (strVP a_2), .res (RLog_e p_0 L_0)] a w at h
  obtain ⟨h_0_0, h⟩ := h.ex 3 rfl
  obtain ⟨h_0_1, h⟩ := h.ex 3 rfl
  change SatL c [.slot 0 (eqVP p_0), .slot 1 (aggVP [bytesCk 32 a_1]), .slot 2 (strVP a_2), .res (RLog_o p_0 h_0_0 h_0_1 L_0)] a w at h
  cases L_0 with
  | none =>
    change ref04_Log_Note.n a_1 a_2 = some r at hF
    unfold ref04_Log_Note.n at hF
    obtain rfl := h.isp 3 rfl (fun _ _ _ q => q.2)
    replace h := h.slotc 0 rfl (V' := ptrVP (.pointer none) false) (fun _ _ h => ⟨h, rfl⟩)
    change SatL c [.slot 0 (ptrVP (.pointer none) false), .slot 1 (aggVP [bytesCk 32 a_1]), .slot 2 (strVP a_2), .res (RLog_o (.pointer none) h_0_0 h_0_1 none)] a w at h
    refine regS mixed hn hG h [0, 2, 501, 3, 500] (ob [1] (op_box q0 (cells_agg _)) .nil) fun b1 a w h => ?_
    refine wp_seq ?_
    refine regS mixed hn hG h [0, 1, 2, 500, 3, 4] (ov [0] (op_move q0) <| ov [500] (op_bin (bin_pnil Tryd.underlying42) q0 (opc (ec _))) .nil) fun _ a w h => ?_
    refine cond_L h 3 rfl (fun hb2 => ?_) (fun hb2 => ?_)
    · skip
      replace h := h.sel [4]
      refine wp_ret ?_
      replace h := h.conv 0 rfl RLog_packo
      change SatL c [.res (RLog_e (.pointer none) none)] a w at h
      obtain rfl := Option.some.inj hF
      exact ⟨.inl rfl, retn h (rs := []) (Vs := []) Tryd.results79 (by decide) trivial [0] [(RLog_e (.pointer none) none)] rfl rfl rfl⟩
    · cases hb2
  | some s_0 =>
    change ref04_Log_Note.s s_0 a_1 a_2 = some r at hF
    unfold ref04_Log_Note.s at hF
    have hp := h.isp 3 rfl (fun Φ f w q => RLog_lp Φ f w q)
    replace h := h.slotc 0 rfl (V' := lpVP p_0 0) (fun _ _ h => eq_lp h hp)
    replace h := h.sep (R := lb p_0 103 [one (eqVP h_0_0), one (eqVP h_0_1)]) (S := (RP.sep (acc h_0_0 9 1 strC s_0.f_Inputs) (mapR h_0_1 arrK (fun l => l.length = 32) (fun u y => acc u 9 1 strC y) s_0.f_Digests))) 3 rfl
    replace h := h.sep (R := acc h_0_0 9 1 strC s_0.f_Inputs) (S := (mapR h_0_1 arrK (fun l => l.length = 32) (fun u y => acc u 9 1 strC y) s_0.f_Digests)) 4 rfl
    replace h := h.sub [0, 1, 2, 3, 4, 5] (by rfl)
    change SatL c [.slot 0 (lpVP p_0 0), .slot 1 (aggVP [bytesCk 32 a_1]), .slot 2 (strVP a_2), .res (lb p_0 103 [one (eqVP h_0_0), one (eqVP h_0_1)]), .res (acc h_0_0 9 1 strC s_0.f_Inputs), .res (mapR h_0_1 arrK (fun l => l.length = 32) (fun u y => acc u 9 1 strC y) s_0.f_Digests)] a w at h
    refine regS mixed hn hG h [0, 2, 501, 3, 4, 5, 500] (ob [1] (op_box q0 (cells_agg _)) .nil) fun b3 a w h => ?_
    refine wp_seq ?_
    refine regS mixed hn hG h [0, 1, 2, 500, 3, 4, 5, 6] (ov [0] (op_move q0) <| ov [500] (op_bin (bin_pnil Tryd.underlying42) (lp_ptr q0) (opc (ec _))) .nil) fun _ a w h => ?_
    refine cond_L h 3 rfl (fun hb4 => ?_) (fun hb4 => ?_)
    · cases hb4
    · skip
      replace h := h.sel [0, 1, 2, 4, 5, 6, 7]
      refine wp_skip ?_
      show Code.wp Tryd.prog _ _ a w
      refine wp_seq ?_
      refine regS mixed hn hG h [0, 1, 2, 502, 501, 500, 3, 4, 5, 6] (ov [0] (op_move q0) <| ov [500] (op_nilCheck q0 (ptr_lp _ _)) <| ov [500] (op_fieldAddr_lbm (p := p_0) (n := 1) 0 1 Tryd.underlying103 rfl Tryd.sizeOf100 (by decide) q0 rfl) <| ov [500, 3] (op_load_lb1 [one (eqVP h_0_0)] [] 1 Tryd.isAgg100 q0 rfl rfl) <| ov [2, 6] (op_load_w 1 Tryd.isAgg23 Tryd.sizeOf23 q0) <| ov [501, 500, 5] (op_lookup (slVP strC) [] 2 Tryd.underlying100 (keyArr Tryd.underlying23 Tryd.underlying5 Tryd.type5 Tryd.sizeOf5 Tryd.isAgg5) Tryd.zeroValue101 q0 q1 hk_arr rfl res_id (fun _ _ _ _ _ h => acc_sl h) (fun _ => ⟨by decide, .inl ⟨rfl, rfl⟩⟩)) <| ov [500] (op_len_sl Tryd.underlying101 q0) <| ov [] (op_move qi) .nil) fun _ a w h => ?_
      refine wp_block ?_
      obtain ⟨cr16, hl17, hF⟩ := bind_some hF
      refine wp_mono (wp_loopN (R := (Option O_RLog)) (S := Int) (fun s a w => SatL c [.slot 0 (lpVP p_0 0), .slot 2 (strVP a_2), .slot 4 (lpVP (b3 0) 0), .slot 15 (slVP strC ((lkp a_1 s_0.f_Digests).getD [])), .slot 16 (intVP .i64 (((lkp a_1 s_0.f_Digests).getD []).length : Int)), .slot 17 (intVP .i64 s), .res (lb p_0 103 [one (eqVP h_0_0), one (eqVP h_0_1)]), .res (acc h_0_0 9 1 strC s_0.f_Inputs), .res (mapR h_0_1 arrK (fun l => l.length = 32) (fun u y => acc u 9 1 strC y) s_0.f_Digests), .res (lb (b3 0) 23 [bytesCk 32 a_1])] a w) (fun res e a w => match res with | .next s => e = .exit 0 ∧ SatL c [.slot 0 (lpVP p_0 0), .slot 2 (strVP a_2), .slot 4 (lpVP (b3 0) 0), .res (lb p_0 103 [one (eqVP h_0_0), one (eqVP h_0_1)]), .res (acc h_0_0 9 1 strC s_0.f_Inputs), .res (mapR h_0_1 arrK (fun l => l.length = 32) (fun u y => acc u 9 1 strC y) s_0.f_Digests), .res (lb (b3 0) 23 [bytesCk 32 a_1])] a w | .ret r => e = .ret ∧ RetOk Tryd.prog Tryd.f79 c (tupVP []) (fun _ => [RLog_e p_0 r]) a w) ?_ _ 0 _ _ _ (h.sub [0, 1, 2, 3, 4, 5, 6, 7, 8, 9] (by rfl)) hl17) ?_
      · clear hl17 hF h
        intro x8 a w o h hF
        change ref04_Log_Note.b1 s_0 a_1 a_2 x8 = some o at hF
        unfold ref04_Log_Note.b1 at hF
        change SatL c [.slot 0 (lpVP p_0 0), .slot 2 (strVP a_2), .slot 4 (lpVP (b3 0) 0), .slot 15 (slVP strC ((lkp a_1 s_0.f_Digests).getD [])), .slot 16 (intVP .i64 (((lkp a_1 s_0.f_Digests).getD []).length : Int)), .slot 17 (intVP .i64 x8), .res (lb p_0 103 [one (eqVP h_0_0), one (eqVP h_0_1)]), .res (acc h_0_0 9 1 strC s_0.f_Inputs), .res (mapR h_0_1 arrK (fun l => l.length = 32) (fun u y => acc u 9 1 strC y) s_0.f_Digests), .res (lb (b3 0) 23 [bytesCk 32 a_1])] a w at h
        refine regS mixed hn hG h [0, 1, 2, 3, 4, 5, 500, 6, 7, 8, 9] (ov [5, 4] (op_bin bin_lss q0 q1) .nil) fun _ a w h => ?_
        refine wp_seq ?_
        refine cnd h hF 6 [0, 1, 2, 3, 4, 5, 7, 8, 9, 10] [0, 1, 2, 3, 4, 5, 7, 8, 9, 10] (fun hb13 hF h => ?_) (fun hb13 hF h => ?_)
        · refine wp_skip ?_
          show Code.wp Tryd.prog _ _ a w
          refine wp_seq ?_
          refine wp_block ?_
          obtain ⟨hv14, hF⟩ := ite_some hF
          refine regS mixed hn hG h [0, 1, 2, 500, 3, 4, 5, 6, 7, 8, 9] (ov [3, 5] (op_indexAddr_sl Tryd.underlying101 Tryd.sizeOf9 lens_strC q0 q1 hv14) <| ov [500] (op_load_pp1 [] Tryd.isAgg9 q0) <| ov [500] (op_assign q0) .nil) fun _ a w h => ?_
          refine regS mixed hn hG h [0, 1, 2, 4, 5, 6, 500, 7, 8, 9, 10] (ov [3] (op_move q0) <| ov [1] (op_move q0) <| ov [501, 500] (op_bin bin_seql q0 q1) .nil) fun _ a w h => ?_
          refine cnd h hF 6 [7, 8, 9] [0, 1, 2, 3, 4, 5, 7, 8, 9, 10] (fun hb15 hF h => ?_) (fun hb15 hF h => ?_)
          · refine wp_ret ?_
            replace h := h.unsep 1 2 rfl rfl (by decide)
            replace h := h.unsep 0 1 rfl rfl (by decide)
            replace h := h.conv 0 rfl (R' := RLog_e p_0 (some s_0)) (RLog_packo (v0 := h_0_0) (v1 := h_0_1) (o := (some s_0)))
            replace h := h.sub [0] (by rfl)
            change SatL c [.res (RLog_e p_0 (some s_0))] a w at h
            obtain rfl := Option.some.inj hF
            exact ⟨ret_ne, rfl, retn h (rs := []) (Vs := []) Tryd.results79 (by decide) trivial [0] [(RLog_e p_0 (some s_0))] rfl rfl rfl⟩
          · refine wp_skip ?_
            show Code.wp Tryd.prog _ _ a w
            refine reg mixed hn hG h [0, 1, 2, 3, 4, 500, 6, 7, 8, 9] (ov [5] (op_bin bin_add q0 qi) <| od [500] 5 (op_move q0) .nil) fun _ a w h => ?_
            obtain rfl := Option.some.inj hF
            exact ⟨rfl, h.sub [0, 1, 2, 3, 4, 5, 6, 7, 8, 9] (by rfl)⟩
        · refine wp_exit ?_
          obtain rfl := Option.some.inj hF
          exact ⟨exit_ne _, rfl, h.sub [0, 1, 2, 6, 7, 8, 9] (by rfl)⟩
      · clear hl17
        intro e a w hq
        cases cr16 with
        | ret r18 =>
          obtain ⟨rfl, hq⟩ := hq
          obtain rfl := Option.some.inj hF
          exact ⟨.inl rfl, hq⟩
        | next y20 =>
          obtain ⟨rfl, h⟩ := hq
          change SatL c [.slot 0 (lpVP p_0 0), .slot 2 (strVP a_2), .slot 4 (lpVP (b3 0) 0), .res (lb p_0 103 [one (eqVP h_0_0), one (eqVP h_0_1)]), .res (acc h_0_0 9 1 strC s_0.f_Inputs), .res (mapR h_0_1 arrK (fun l => l.length = 32) (fun u y => acc u 9 1 strC y) s_0.f_Digests), .res (lb (b3 0) 23 [bytesCk 32 a_1])] a w at h
          refine inBlock_at ?_
          show Code.wp Tryd.prog _ _ a w
          obtain ⟨hv21, hF⟩ := ite_some hF
          refine regS mixed hn hG h [0, 1, 3, 4, 500] (ov [0] (op_move q0) <| ov [500] (op_nilCheck q0 (ptr_lp _ _)) <| ov [500] (op_fieldAddr_lbm (p := p_0) (n := 1) 0 1 Tryd.underlying103 rfl Tryd.sizeOf100 (by decide) q0 rfl) <| ov [500, 3] (op_load_lb1 [one (eqVP h_0_0)] [] 1 Tryd.isAgg100 q0 rfl rfl) <| ov [2, 6] (op_load_w 1 Tryd.isAgg23 Tryd.sizeOf23 q0) <| ov [1] (op_move q0) <| ov [500] (op_lit (xs := [.tmp 31]) (ys := [a_2]) _ rfl Tryd.underlying101 Tryd.sizeOf9 Tryd.zeroValue9 rfl rfl (by decide) (by decide) ⟨⟨_, q0, (cells_one (one_str _))⟩, trivial⟩ lens_strC) <| og [503, 502] [5] [.slot 33 7 100000 (fun v1_ _ => (tupVP [(eqVP (tup0 v1_)), (eqVP (tup1 v1_))])), .res 7 100000 (fun v1_ _ => (acc (tup0 v1_) 9 1 strC ((lkp a_1 s_0.f_Digests).getD ([] : List (List UInt8))))), .res 7 100000 (fun v1_ _ => (mapH h_0_1 (tup1 v1_) arrK (fun l => l.length = 32) (fun u y => acc u 9 1 strC y) a_1 (ens a_1 ([] : List (List UInt8)) s_0.f_Digests)))] (GOk.plain (op_mapEntry ([] : List (List UInt8)) Tryd.underlying100 (keyArr Tryd.underlying23 Tryd.underlying5 Tryd.type5 Tryd.sizeOf5 Tryd.isAgg5) Tryd.zeroValue101 q0 q1 hk_arr (fun _ _ => ⟨by decide, .inl ⟨rfl, rfl, rfl⟩⟩)) rfl) <| og [502] [] [.slot 30 7 100000 (fun v1_ _ => (eqVP (tup0 v1_)))] (fun {β} => (GOk.plain (op_extract (V := (eqVP (tup0 (β 7)))) q0 rfl) rfl)) <| og [500, 504] [502] [.slot 34 9 100000 (fun v1_ _ => (eqVP v1_)), .res 9 100000 (fun v1_ _ => (acc (v1_) 9 1 strC (((lkp a_1 s_0.f_Digests).getD ([] : List (List UInt8))) ++ [a_2])))] (GOk.plain (op_append (i := Tryd.t9) Tryd.underlying101 Tryd.type9 rfl lens_strC (by decide) rfl q0 q1 hv21) rfl) <| og [505] [] [.slot 35 7 100000 (fun v1_ _ => (eqVP (tup1 v1_)))] (fun {β} => (GOk.plain (op_extract (V := (eqVP (tup1 (β 7)))) q0 rfl) rfl)) <| og [510, 500, 502] [501, 504] [.base (.res (mapR h_0_1 arrK (fun l => l.length = 32) (fun u y => acc u 9 1 strC y) (upd a_1 (((lkp a_1 s_0.f_Digests).getD ([] : List (List UInt8))) ++ [a_2]) (ens a_1 ([] : List (List UInt8)) s_0.f_Digests))))] (fun {β} => (GOk.plain (op_entryStore (eR := (fun u y => acc u 9 1 strC y)) (u := (β 9)) (n := (((lkp a_1 s_0.f_Digests).getD ([] : List (List UInt8))) ++ [a_2])) q0 q1 q2) rfl)) .nil) fun _ a w h => ?_
          obtain ⟨hv22, hF⟩ := ite_some hF
          refine reg mixed hn hG h [500, 4, 503] (ov [0] (op_move q0) <| ov [0] (op_move q0) <| ov [500] (op_nilCheck q0 (ptr_lp _ _)) <| ov [500] (op_fieldAddr_lbm (p := p_0) (n := 1) 0 0 Tryd.underlying103 rfl Tryd.sizeOf101 (by decide) q0 rfl) <| ov [500, 2] (op_load_lb1 [] [one (eqVP h_0_1)] 1 Tryd.isAgg101 q0 rfl rfl) <| ov [1] (op_move q0) <| ov [500] (op_lit (xs := [.tmp 41]) (ys := [a_2]) _ rfl Tryd.underlying101 Tryd.sizeOf9 Tryd.zeroValue9 rfl rfl (by decide) (by decide) ⟨⟨_, q0, (cells_one (one_str _))⟩, trivial⟩ lens_strC) <| og [502, 500] [3] [.slot 43 7 100000 (fun v1_ _ => (eqVP v1_)), .res 7 100000 (fun v1_ _ => (acc (v1_) 9 1 strC (s_0.f_Inputs ++ [a_2])))] (GOk.plain (op_append (i := Tryd.t9) Tryd.underlying101 Tryd.type9 rfl lens_strC (by decide) rfl q0 q1 hv22) rfl) <| ov [508] (op_nilCheck q0 (ptr_lp _ _)) <| ov [500] (op_fieldAddr_lbm (p := p_0) (n := 1) 0 0 Tryd.underlying103 rfl Tryd.sizeOf101 (by decide) q0 rfl) <| og [500, 503, 502] [2] [.res 7 100000 (fun v1_ _ => (lb p_0 103 [one (eqVP (v1_)), one (eqVP h_0_1)]))] (fun {β} => (GOk.plain (op_store_lb [] [one (eqVP h_0_0)] [one (eqVP h_0_1)] [one (eqVP ((β 7)))] Tryd.sizeOf101 q0 (opone 1 2 rfl rfl acc_one) (cells_h _) rfl rfl rfl) rfl)) .nil) fun b23 a w h => ?_
          replace h := h.unsep 2 1 rfl rfl (by decide)
          replace h := h.unsep 0 2 rfl rfl (by decide)
          replace h := h.conv 0 rfl (R' := RLog_e p_0 (some ⟨s_0.f_Inputs ++ [a_2], upd a_1 (((lkp a_1 s_0.f_Digests).getD ([] : List (List UInt8))) ++ [a_2]) (ens a_1 ([] : List (List UInt8)) s_0.f_Digests)⟩)) (RLog_packo (v0 := (b23 7)) (v1 := h_0_1) (o := (some ⟨s_0.f_Inputs ++ [a_2], upd a_1 (((lkp a_1 s_0.f_Digests).getD ([] : List (List UInt8))) ++ [a_2]) (ens a_1 ([] : List (List UInt8)) s_0.f_Digests)⟩)))
          replace h := h.sub [0] (by rfl)
          change SatL c [.res (RLog_e p_0 (some ⟨s_0.f_Inputs ++ [a_2], upd a_1 (((lkp a_1 s_0.f_Digests).getD ([] : List (List UInt8))) ++ [a_2]) (ens a_1 ([] : List (List UInt8)) s_0.f_Digests)⟩))] a w at h
          obtain rfl := Option.some.inj hF
          exact ⟨.inr rfl, retn h (rs := []) (Vs := []) Tryd.results79 (by decide) trivial [0] [(RLog_e p_0 (some ⟨s_0.f_Inputs ++ [a_2], upd a_1 (((lkp a_1 s_0.f_Digests).getD ([] : List (List UInt8))) ++ [a_2]) (ens a_1 ([] : List (List UInt8)) s_0.f_Digests)⟩))] rfl rfl rfl⟩

def ref04_Log_Of (L_0 : Option O_RLog) (a_1 : Int) (a_2 : List (List UInt8)) : Option ((List UInt8) × (Option O_RLog)) := ((ref04_Input a_1 a_2).bind fun r2 => ((ref01_Sum r2).bind fun r3 => ((ref04_Log_Note L_0 r3 r2).bind fun r5 => some (r3, r5))))
theorem ref04_Log_Of_ok {p_0 : Value} {L_0 : Option O_RLog} {a_1 : Int} {a_2 : List (List UInt8)} {r : (List UInt8) × (Option O_RLog)} (hF : ref04_Log_Of L_0 a_1 a_2 = some r) : CallOk Tryd.prog KG 59 [(eqVP p_0), (intVP .u8 a_1), (slVP strC a_2)] [(RLog_e p_0 L_0)] (fun _ => [RLog_e p_0 r.2]) (aggVP [bytesCk 32 r.1]) := by
  refine CallOk.intro 19 Tryd.func59 rfl Tryd.ntmps59 (Nat.le_of_ble_eq_true rfl) ?_
  intro c a w hG hn h
  unfold ref04_Log_Of at hF
  change SatL c [.slot 0 (eqVP p_0), .slot 1 (intVP .u8 a_1), .slot 2 (slVP strC a_2), .res (RLog_e p_0 L_0)] a w at h
  refine regS mixed hn hG h [0, 1, 2, 501, 3, 500] (ob [] (op_alloc Tryd.zeroValue23 z23) .nil) fun b1 a w h => ?_
  obtain ⟨r2, hr2, hF⟩ := bind_some hF
  refine regS mixed hn hG h [0, 3, 500, 4, 5] (ov [1] (op_move q0) <| ov [2] (op_move q0) <| oc [501, 500] [] Tryd.call77 (ref04_Input_ok hr2) ⟨q0, q1, trivial⟩ <| ov [500] (op_assign q0) .nil) fun _ a w h => ?_
  obtain ⟨r3, hr3, hF⟩ := bind_some hF
  refine regS mixed hn hG h [0, 1, 2, 502, 3, 4, 500] (ov [2] (op_move q0) <| oc [500] [] Tryd.call78 (ref01_Sum_ok hr3) ⟨q0, trivial⟩ <| ob [] (op_alloc Tryd.zeroValue23 z23) <| og [501, 502] [500] [.res 2 100000 (fun v1_ _ => (lb (v1_) 23 [bytesCk 32 r3]))] (GOk.plain (op_store_w Tryd.sizeOf23 q0 q1 (cells_agg _)) rfl) .nil) fun b4 a w h => ?_
  obtain ⟨r5, hr5, hF⟩ := bind_some hF
  refine regS mixed hn hG h [1, 3, 5, 6, 500] (ov [0] (op_move q0) <| ov [3, 6] (op_load_w 1 Tryd.isAgg23 Tryd.sizeOf23 q0) <| ov [2] (op_move q0) <| oc [502, 501, 500] [4] Tryd.call79 (ref04_Log_Note_ok hr5) ⟨q0, q1, q2, trivial⟩ .nil) fun _ a w h => ?_
  refine regS mixed hn hG h [0, 500, 4] (ov [1, 3] (op_load_w 1 Tryd.isAgg23 Tryd.sizeOf23 q0) <| ou [0, 500] 2 (op_store_w Tryd.sizeOf23 q0 q1 (cells_agg _)) .nil) fun _ a w h => ?_
  refine wp_ret ?_
  obtain rfl := Option.some.inj hF
  exact ⟨.inl rfl, ret1 h Tryd.results59 (r_cell 0 1 rfl rfl Tryd.isAgg23 Tryd.sizeOf23 rfl) [2] [(RLog_e p_0 r5)] rfl rfl rfl⟩

def ref03_Bytes (a_0 : List UInt8) : Option (List UInt8) := some (a_0.take ((32 : Int).toNat - (0 : Int).toNat))
theorem ref03_Bytes_ok {a_0 : List UInt8} {r : (List UInt8)} (hF : ref03_Bytes a_0 = some r) : CallOk Tryd.prog KG 61 [(aggVP [bytesCk 32 a_0])] [] (fun _ => []) (strVP r) := by
  refine CallOk.intro 5 Tryd.func61 rfl Tryd.ntmps61 (Nat.le_of_ble_eq_true rfl) ?_
  intro c a w hG hn h
  unfold ref03_Bytes at hF
  change SatL c [.slot 0 (aggVP [bytesCk 32 a_0])] a w at h
  refine regS mixed hn hG h [502, 501] (ob [0] (op_box q0 (cells_agg _)) <| ov [] (op_assign (opc (sc _ (by decide)))) .nil) fun b1 a w h => ?_
  refine regS mixed hn hG h [500] (ov [0] (op_slice_lb (a := 0) (b := 32) Tryd.underlying23 Tryd.sizeOf5 q0 rfl rfl (by decide)) <| ov [500, 1] (op_str_lsl [] [] 1 Tryd.underlying129 Tryd.underlying5 Tryd.underlying9 q0 rfl rfl (by decide) (by decide)) <| ov [500] (op_assign q0) .nil) fun _ a w h => ?_
  refine wp_ret ?_
  obtain rfl := Option.some.inj hF
  exact ⟨.inl rfl, ret1 h Tryd.results61 (r_tmp 0 rfl) [] [] rfl rfl rfl⟩

def ref05_Public (L_0 : Option O_RLog) (a_1 : List UInt8) : Option ((List UInt8) × (Option O_RLog)) := ((ref03_Bytes a_1).bind fun r3 => ((ref04_Log_Of L_0 2 [r3]).bind fun r4 => some (r4.1, r4.2)))
theorem ref05_Public_ok {p_0 : Value} {L_0 : Option O_RLog} {a_1 : List UInt8} {r : (List UInt8) × (Option O_RLog)} (hF : ref05_Public L_0 a_1 = some r) : CallOk Tryd.prog KG 73 [(eqVP p_0), (aggVP [bytesCk 32 a_1])] [(RLog_e p_0 L_0)] (fun _ => [RLog_e p_0 r.2]) (aggVP [bytesCk 32 r.1]) := by
  refine CallOk.intro 10 Tryd.func73 rfl Tryd.ntmps73 (Nat.le_of_ble_eq_true rfl) ?_
  intro c a w hG hn h
  unfold ref05_Public at hF
  change SatL c [.slot 0 (eqVP p_0), .slot 1 (aggVP [bytesCk 32 a_1]), .res (RLog_e p_0 L_0)] a w at h
  refine regS mixed hn hG h [0, 503, 501, 2, 502, 500] (ob [1] (op_box q0 (cells_agg _)) <| ob [] (op_alloc Tryd.zeroValue23 z23) .nil) fun b1 a w h => ?_
  obtain ⟨r3, hr3, hF⟩ := bind_some hF
  obtain ⟨r4, hr4, hF⟩ := bind_some hF
  refine regS mixed hn hG h [2, 500, 501] (ov [0] (op_move q0) <| ov [1, 4] (op_load_w 1 Tryd.isAgg23 Tryd.sizeOf23 q0) <| oc [500] [] Tryd.call61 (ref03_Bytes_ok hr3) ⟨q0, trivial⟩ <| ov [500] (op_lit (xs := [.tmp 7]) (ys := [r3]) _ rfl Tryd.underlying101 Tryd.sizeOf9 Tryd.zeroValue9 rfl rfl (by decide) (by decide) ⟨⟨_, q0, (cells_one (one_str _))⟩, trivial⟩ lens_strC) <| oc [503, 500] [3] Tryd.call59 (ref04_Log_Of_ok hr4) ⟨q0, qi, q1, trivial⟩ <| ou [2, 501] 5 (op_store_w Tryd.sizeOf23 q0 q1 (cells_agg _)) .nil) fun _ a w h => ?_
  refine wp_ret ?_
  obtain rfl := Option.some.inj hF
  exact ⟨.inl rfl, ret1 h Tryd.results73 (r_cell 0 1 rfl rfl Tryd.isAgg23 Tryd.sizeOf23 rfl) [2] [(RLog_e p_0 r4.2)] rfl rfl rfl⟩

def ref05_Secret (L_0 : Option O_RLog) (a_1 : List UInt8) (a_2 : Int) (a_3 : Int) (a_4 : Int) : Option ((List UInt8) × (Option O_RLog)) := ((ref03_Bytes a_1).bind fun r3 => ((ref03_Big (IntKind.wrap .u64 a_2) 4).bind fun r4 => ((ref03_Big (IntKind.wrap .u64 a_3) 1).bind fun r5 => ((ref03_Big (IntKind.wrap .u64 a_4) 1).bind fun r6 => ((ref04_Log_Of L_0 1 [r3, r4, r5, r6]).bind fun r7 => some (r7.1, r7.2))))))
theorem ref05_Secret_ok {p_0 : Value} {L_0 : Option O_RLog} {a_1 : List UInt8} {a_2 : Int} {a_3 : Int} {a_4 : Int} {r : (List UInt8) × (Option O_RLog)} (hF : ref05_Secret L_0 a_1 a_2 a_3 a_4 = some r) : CallOk Tryd.prog KG 74 [(eqVP p_0), (aggVP [bytesCk 32 a_1]), (intVP .i64 a_2), (intVP .i64 a_3), (intVP .i64 a_4)] [(RLog_e p_0 L_0)] (fun _ => [RLog_e p_0 r.2]) (aggVP [bytesCk 32 r.1]) := by
  refine CallOk.intro 25 Tryd.func74 rfl Tryd.ntmps74 (Nat.le_of_ble_eq_true rfl) ?_
  intro c a w hG hn h
  unfold ref05_Secret at hF
  change SatL c [.slot 0 (eqVP p_0), .slot 1 (aggVP [bytesCk 32 a_1]), .slot 2 (intVP .i64 a_2), .slot 3 (intVP .i64 a_3), .slot 4 (intVP .i64 a_4), .res (RLog_e p_0 L_0)] a w at h
  refine regS mixed hn hG h [0, 2, 3, 4, 503, 501, 5, 502, 500] (ob [1] (op_box q0 (cells_agg _)) <| ob [] (op_alloc Tryd.zeroValue23 z23) .nil) fun b1 a w h => ?_
  obtain ⟨r3, hr3, hF⟩ := bind_some hF
  obtain ⟨r4, hr4, hF⟩ := bind_some hF
  obtain ⟨r5, hr5, hF⟩ := bind_some hF
  obtain ⟨r6, hr6, hF⟩ := bind_some hF
  obtain ⟨r7, hr7, hF⟩ := bind_some hF
  refine regS mixed hn hG h [5, 500, 501] (ov [0] (op_move q0) <| ov [4, 7] (op_load_w 1 Tryd.isAgg23 Tryd.sizeOf23 q0) <| oc [500] [] Tryd.call61 (ref03_Bytes_ok hr3) ⟨q0, trivial⟩ <| ov [1] (op_move q0) <| ov [500] (op_convert_int Tryd.underlying3 Tryd.underlying114 q0) <| oc [500] [] Tryd.call60 (ref03_Big_ok hr4) ⟨q0, qi, trivial⟩ <| ov [2] (op_move q0) <| ov [500] (op_convert_int Tryd.underlying3 Tryd.underlying114 q0) <| oc [500] [] Tryd.call60 (ref03_Big_ok hr5) ⟨q0, qi, trivial⟩ <| ov [3] (op_move q0) <| ov [500] (op_convert_int Tryd.underlying3 Tryd.underlying114 q0) <| oc [500] [] Tryd.call60 (ref03_Big_ok hr6) ⟨q0, qi, trivial⟩ <| ov [509, 506, 503, 500] (op_lit (xs := [.tmp 13, .tmp 16, .tmp 19, .tmp 22]) (ys := [r3, r4, r5, r6]) _ rfl Tryd.underlying101 Tryd.sizeOf9 Tryd.zeroValue9 rfl rfl (by decide) (by decide) ⟨⟨_, q0, (cells_one (one_str _))⟩, ⟨_, q1, (cells_one (one_str _))⟩, ⟨_, q2, (cells_one (one_str _))⟩, ⟨_, q3, (cells_one (one_str _))⟩, trivial⟩ lens_strC) <| oc [512, 500] [6] Tryd.call59 (ref04_Log_Of_ok hr7) ⟨q0, qi, q1, trivial⟩ <| ou [5, 501] 8 (op_store_w Tryd.sizeOf23 q0 q1 (cells_agg _)) .nil) fun _ a w h => ?_
  refine wp_ret ?_
  obtain rfl := Option.some.inj hF
  exact ⟨.inl rfl, ret1 h Tryd.results74 (r_cell 0 1 rfl rfl Tryd.isAgg23 Tryd.sizeOf23 rfl) [2] [(RLog_e p_0 r7.2)] rfl rfl rfl⟩
end Go.Proofs.YtamnmljgcmbliaaDoor
