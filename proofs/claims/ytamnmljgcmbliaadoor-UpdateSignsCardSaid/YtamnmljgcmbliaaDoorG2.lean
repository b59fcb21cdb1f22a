/- The functions' Lean twins and contracts, printed by this session's own program: part 2. -/
import Derived.Test.YtamnmljgcmbliaaDoorG1
namespace Go.Proofs.YtamnmljgcmbliaaDoor
open Go Go.RowKit Go.Proofs
set_option maxRecDepth 100000
set_option maxHeartbeats 4000000
set_option linter.unusedVariables false
def strings_Builder_String (L_0 : O_Bld) : Option (List UInt8) := (if L_0.f_buf ≠ [] then some L_0.f_buf else none)
theorem strings_Builder_String_ok {p_0 : Value} {L_0 : O_Bld} {r : (List UInt8)} (hF : strings_Builder_String L_0 = some r) : CallOk Tryd.prog KG 88 [(eqVP p_0)] [(Bld_e p_0 (some L_0))] (fun _ => []) (strVP r) := by
  refine CallOk.intro 14 Tryd.func88 rfl Tryd.ntmps88 (Nat.le_of_ble_eq_true rfl) ?_
  intro c a w hG hn h
  unfold strings_Builder_String at hF
  change SatL c [.slot 0 (eqVP p_0), .res (Bld_e p_0 (some L_0))] a w at h
  obtain ⟨h_0_1, h⟩ := h.ex 1 rfl
  change SatL c [.slot 0 (eqVP p_0), .res (Bld_o p_0 h_0_1 (some L_0))] a w at h
  have hp := h.isp 1 rfl (fun Φ f w q => Bld_lp Φ f w q)
  replace h := h.slotc 0 rfl (V' := lpVP p_0 0) (fun _ _ h => eq_lp h hp)
  replace h := h.sep (R := lb p_0 143 [one (selfVP p_0), one (eqVP h_0_1)]) (S := (acc h_0_1 5 1 bC L_0.f_buf)) 1 rfl
  replace h := h.sub [0, 1, 2] (by rfl)
  change SatL c [.slot 0 (lpVP p_0 0), .res (lb p_0 143 [one (selfVP p_0), one (eqVP h_0_1)]), .res (acc h_0_1 5 1 bC L_0.f_buf)] a w at h
  refine regS mixed hn hG h [0, 1, 2] (ov [] (op_assign (opc (sc _ (by decide)))) .nil) fun _ a w h => ?_
  obtain ⟨hv1, hF⟩ := ite_some hF
  refine regS mixed hn hG h [500, 1] (ov [0] (op_move q0) <| ov [500] (op_nilCheck q0 (ptr_lp _ _)) <| ov [500] (op_fieldAddr_lbm (p := p_0) (n := 1) 0 1 Tryd.underlying143 rfl Tryd.sizeOf129 (by decide) q0 rfl) <| ov [500, 1] (op_load_lb1 [one (selfVP p_0)] [] 1 Tryd.isAgg129 q0 rfl rfl) <| ov [500, 2] (op_usd 1 q0 rfl hv1) <| ov [0] (op_move q0) <| ov [500] (op_nilCheck q0 (ptr_lp _ _)) <| ov [500] (op_fieldAddr_lbm (p := p_0) (n := 1) 0 1 Tryd.underlying143 rfl Tryd.sizeOf129 (by decide) q0 rfl) <| ov [500, 1] (op_load_lb1 [one (selfVP p_0)] [] 1 Tryd.isAgg129 q0 rfl rfl) <| ov [500, 2] (op_len_sl Tryd.underlying129 (opacc 0 1 rfl rfl)) <| oe [505, 500] [2] (GOk.plain (op_ustr Tryd.underlying164 (by kernel_rfl) q0 q1 hv1) rfl) <| ov [500] (op_assign q0) .nil) fun _ a w h => ?_
  refine wp_ret ?_
  obtain rfl := Option.some.inj hF
  exact ⟨.inl rfl, ret1 h Tryd.results88 (r_tmp 0 rfl) [] [] rfl rfl rfl⟩

def strings_Builder_WriteByte (L_0 : O_Bld) (a_1 : Int) : Option (Value × O_Bld) := (if L_0.f_buf.length + [u8of a_1].length ≤ mxl ∧ (L_0.f_buf.length + [u8of a_1].length) * 1 ≤ 140737488355328 then some (Value.nilIface, ⟨L_0.f_buf ++ [u8of a_1]⟩) else none)
theorem strings_Builder_WriteByte_ok {p_0 : Value} {L_0 : O_Bld} {a_1 : Int} {r : Value × O_Bld} (hF : strings_Builder_WriteByte L_0 a_1 = some r) : CallOk Tryd.prog KG 93 [(eqVP p_0), (intVP .u8 a_1)] [(Bld_e p_0 (some L_0))] (fun _ => [Bld_e p_0 (some r.2)]) (eqVP r.1) := by
  refine CallOk.intro 17 Tryd.func93 rfl Tryd.ntmps93 (Nat.le_of_ble_eq_true rfl) ?_
  intro c a w hG hn h
  unfold strings_Builder_WriteByte at hF
  change SatL c [.slot 0 (eqVP p_0), .slot 1 (intVP .u8 a_1), .res (Bld_e p_0 (some L_0))] a w at h
  obtain ⟨h_0_1, h⟩ := h.ex 2 rfl
  change SatL c [.slot 0 (eqVP p_0), .slot 1 (intVP .u8 a_1), .res (Bld_o p_0 h_0_1 (some L_0))] a w at h
  have hp := h.isp 2 rfl (fun Φ f w q => Bld_lp Φ f w q)
  replace h := h.slotc 0 rfl (V' := lpVP p_0 0) (fun _ _ h => eq_lp h hp)
  replace h := h.sep (R := lb p_0 143 [one (selfVP p_0), one (eqVP h_0_1)]) (S := (acc h_0_1 5 1 bC L_0.f_buf)) 2 rfl
  replace h := h.sub [0, 1, 2, 3] (by rfl)
  change SatL c [.slot 0 (lpVP p_0 0), .slot 1 (intVP .u8 a_1), .res (lb p_0 143 [one (selfVP p_0), one (eqVP h_0_1)]), .res (acc h_0_1 5 1 bC L_0.f_buf)] a w at h
  refine regS mixed hn hG h [0, 1, 2, 3] (ov [] (op_assign (opc (ec _))) .nil) fun _ a w h => ?_
  refine regS mixed hn hG h [0, 1, 3, 500] (ov [0] (op_move q0) <| oc [500] [2] Tryd.call100 copyCheck_ok ⟨(lp_eqo 0 rfl), trivial⟩ .nil) fun _ a w h => ?_
  obtain ⟨hv1, hF⟩ := ite_some hF
  refine regS mixed hn hG h [500, 503] (ov [0] (op_move q0) <| ov [0] (op_move q0) <| ov [500] (op_nilCheck q0 (ptr_lp _ _)) <| ov [500] (op_fieldAddr_lbm (p := p_0) (n := 1) 0 1 Tryd.underlying143 rfl Tryd.sizeOf129 (by decide) q0 rfl) <| ov [500, 3] (op_load_lb1 [one (selfVP p_0)] [] 1 Tryd.isAgg129 q0 rfl rfl) <| ov [1] (op_move q0) <| ov [500] (op_lit (xs := [.tmp 12]) (ys := [u8of a_1]) _ rfl Tryd.underlying129 Tryd.sizeOf5 Tryd.zeroValue5 rfl rfl (by decide) (by decide) ⟨⟨_, q0, (cells_u8 _)⟩, trivial⟩ lens_bC) <| og [502, 500] [2] [.slot 14 7 100000 (fun v1_ _ => (eqVP v1_)), .res 7 100000 (fun v1_ _ => (acc (v1_) 5 1 bC (L_0.f_buf ++ [u8of a_1])))] (GOk.plain (op_append (i := Tryd.t5) Tryd.underlying129 Tryd.type5 rfl lens_bC (by decide) rfl q0 q1 hv1) rfl) <| ov [508] (op_nilCheck q0 (ptr_lp _ _)) <| ov [500] (op_fieldAddr_lbm (p := p_0) (n := 1) 0 1 Tryd.underlying143 rfl Tryd.sizeOf129 (by decide) q0 rfl) <| og [500, 503, 502] [3] [.res 7 100000 (fun v1_ _ => (lb p_0 143 [one (selfVP p_0), one (eqVP (v1_))]))] (fun {β} => (GOk.plain (op_store_lb [one (selfVP p_0)] [one (eqVP h_0_1)] [] [one (eqVP ((β 7)))] Tryd.sizeOf129 q0 (opone 1 2 rfl rfl acc_one) (cells_h _) rfl rfl rfl) rfl)) .nil) fun b2 a w h => ?_
  refine regS mixed hn hG h [500, 0, 1] (ov [] (op_assign (opc (ec _))) .nil) fun _ a w h => ?_
  refine wp_ret ?_
  replace h := h.unsep 1 2 rfl rfl (by decide)
  replace h := h.conv 1 rfl (R' := Bld_e p_0 (some ⟨L_0.f_buf ++ [u8of a_1]⟩)) (Bld_packo (v1 := (b2 7)) (o := (some ⟨L_0.f_buf ++ [u8of a_1]⟩)))
  replace h := h.sub [0, 1] (by rfl)
  change SatL c [.slot 4 (eqVP Value.nilIface), .res (Bld_e p_0 (some ⟨L_0.f_buf ++ [u8of a_1]⟩))] a w at h
  obtain rfl := Option.some.inj hF
  exact ⟨.inl rfl, ret1 h Tryd.results93 (r_tmp 0 rfl) [1] [(Bld_e p_0 (some ⟨L_0.f_buf ++ [u8of a_1]⟩))] rfl rfl rfl⟩

def strings_Builder_WriteString (L_0 : O_Bld) (a_1 : List UInt8) : Option (Int × Value × O_Bld) := (if L_0.f_buf.length + a_1.length ≤ mxl ∧ (L_0.f_buf.length + a_1.length) * 1 ≤ 140737488355328 then some ((a_1.length : Int), Value.nilIface, ⟨L_0.f_buf ++ a_1⟩) else none)
theorem strings_Builder_WriteString_ok {p_0 : Value} {L_0 : O_Bld} {a_1 : List UInt8} {r : Int × Value × O_Bld} (hF : strings_Builder_WriteString L_0 a_1 = some r) : CallOk Tryd.prog KG 94 [(eqVP p_0), (strVP a_1)] [(Bld_e p_0 (some L_0))] (fun _ => [Bld_e p_0 (some r.2.2)]) (tupVP [(intVP .i64 r.1), (eqVP r.2.1)]) := by
  refine CallOk.intro 19 Tryd.func94 rfl Tryd.ntmps94 (Nat.le_of_ble_eq_true rfl) ?_
  intro c a w hG hn h
  unfold strings_Builder_WriteString at hF
  change SatL c [.slot 0 (eqVP p_0), .slot 1 (strVP a_1), .res (Bld_e p_0 (some L_0))] a w at h
  obtain ⟨h_0_1, h⟩ := h.ex 2 rfl
  change SatL c [.slot 0 (eqVP p_0), .slot 1 (strVP a_1), .res (Bld_o p_0 h_0_1 (some L_0))] a w at h
  have hp := h.isp 2 rfl (fun Φ f w q => Bld_lp Φ f w q)
  replace h := h.slotc 0 rfl (V' := lpVP p_0 0) (fun _ _ h => eq_lp h hp)
  replace h := h.sep (R := lb p_0 143 [one (selfVP p_0), one (eqVP h_0_1)]) (S := (acc h_0_1 5 1 bC L_0.f_buf)) 2 rfl
  replace h := h.sub [0, 1, 2, 3] (by rfl)
  change SatL c [.slot 0 (lpVP p_0 0), .slot 1 (strVP a_1), .res (lb p_0 143 [one (selfVP p_0), one (eqVP h_0_1)]), .res (acc h_0_1 5 1 bC L_0.f_buf)] a w at h
  refine regS mixed hn hG h [0, 1, 2, 3] (ov [] (op_assign qi) <| ov [] (op_assign (opc (ec _))) .nil) fun _ a w h => ?_
  refine regS mixed hn hG h [0, 1, 3, 500] (ov [0] (op_move q0) <| oc [500] [2] Tryd.call100 copyCheck_ok ⟨(lp_eqo 0 rfl), trivial⟩ .nil) fun _ a w h => ?_
  obtain ⟨hv1, hF⟩ := ite_some hF
  refine regS mixed hn hG h [1, 500, 503] (ov [0] (op_move q0) <| ov [0] (op_move q0) <| ov [500] (op_nilCheck q0 (ptr_lp _ _)) <| ov [500] (op_fieldAddr_lbm (p := p_0) (n := 1) 0 1 Tryd.underlying143 rfl Tryd.sizeOf129 (by decide) q0 rfl) <| ov [500, 3] (op_load_lb1 [one (selfVP p_0)] [] 1 Tryd.isAgg129 q0 rfl rfl) <| ov [1] (op_move q0) <| og [501, 500] [2] [.slot 14 6 100000 (fun v1_ _ => (eqVP v1_)), .res 6 100000 (fun v1_ _ => (acc (v1_) 5 1 bC (L_0.f_buf ++ a_1)))] (GOk.plain (op_append_str Tryd.underlying129 Tryd.underlying9 Tryd.type5 rfl rfl rfl rfl q0 q1 hv1) rfl) <| ov [507] (op_nilCheck q0 (ptr_lp _ _)) <| ov [500] (op_fieldAddr_lbm (p := p_0) (n := 1) 0 1 Tryd.underlying143 rfl Tryd.sizeOf129 (by decide) q0 rfl) <| og [500, 503, 502] [3] [.res 6 100000 (fun v1_ _ => (lb p_0 143 [one (selfVP p_0), one (eqVP (v1_))]))] (fun {β} => (GOk.plain (op_store_lb [one (selfVP p_0)] [one (eqVP h_0_1)] [] [one (eqVP ((β 6)))] Tryd.sizeOf129 q0 (opone 1 2 rfl rfl acc_one) (cells_h _) rfl rfl rfl) rfl)) .nil) fun b2 a w h => ?_
  refine regS mixed hn hG h [501, 500, 1, 2] (ov [0] (op_move q0) <| ov [500] (op_len_str Tryd.underlying9 q0) <| ov [500] (op_assign q0) <| ov [] (op_assign (opc (ec _))) .nil) fun _ a w h => ?_
  refine wp_ret ?_
  replace h := h.unsep 2 3 rfl rfl (by decide)
  replace h := h.conv 2 rfl (R' := Bld_e p_0 (some ⟨L_0.f_buf ++ a_1⟩)) (Bld_packo (v1 := (b2 6)) (o := (some ⟨L_0.f_buf ++ a_1⟩)))
  replace h := h.sub [0, 1, 2] (by rfl)
  change SatL c [.slot 4 (intVP .i64 (a_1.length : Int)), .slot 5 (eqVP Value.nilIface), .res (Bld_e p_0 (some ⟨L_0.f_buf ++ a_1⟩))] a w at h
  obtain rfl := Option.some.inj hF
  exact ⟨.inl rfl, retn h (rs := [.tmp 4, .tmp 5]) (Vs := [(intVP .i64 (a_1.length : Int)), (eqVP Value.nilIface)]) Tryd.results94 (by decide) ⟨(r_tmp 0 rfl), (r_tmp 1 rfl), trivial⟩ [2] [(Bld_e p_0 (some ⟨L_0.f_buf ++ a_1⟩))] rfl rfl rfl⟩

def wire_big.b1 (a_0 : Int) (a_1 : Int) (x4 : Int) (x5 : List UInt8) : Option (Flow (List UInt8) (Int × (List UInt8))) := (if (decide (x4 < a_1)) = true then (if (0 : Int) ≤ IntKind.wrap .i64 (8 * (IntKind.wrap .i64 ((IntKind.wrap .i64 (a_1 - 1)) - x4))) then (if (0 : Int) ≤ x4 ∧ x4 < 8 then some (.cont (IntKind.wrap .i64 (x4 + 1), x5.set x4.toNat (u8of (IntKind.wrap .u8 (shr .u64 a_0 (IntKind.wrap .i64 (8 * (IntKind.wrap .i64 ((IntKind.wrap .i64 (a_1 - 1)) - x4))))))))) else none) else none) else some (.brk (x4, x5)))
def wire_big (a_0 : Int) (a_1 : Int) : Option (List UInt8) := ((loopN (fun s : Int × (List UInt8) => wire_big.b1 a_0 a_1 s.1 s.2) ((a_1 - 0 : Int).toNat + 2) (0, (List.replicate 8 0))).bind fun cr => match cr with | .ret r => some r | .next (y18, y19) => (if (0 : Int) ≤ 0 ∧ (0 : Int) ≤ a_1 ∧ a_1 ≤ 8 ∧ (0 : Int) < 8 then (if (a_1 : Int).toNat - (0 : Int).toNat ≤ 8 then some (y19.take ((a_1 : Int).toNat - (0 : Int).toNat)) else none) else none))
theorem wire_big_ok {a_0 : Int} {a_1 : Int} {r : (List UInt8)} (hF : wire_big a_0 a_1 = some r) : CallOk Tryd.prog KG 83 [(intVP .u64 a_0), (intVP .i64 a_1)] [] (fun _ => []) (strVP r) := by
  refine CallOk.intro 25 Tryd.func83 rfl Tryd.ntmps83 (Nat.le_of_ble_eq_true rfl) ?_
  intro c a w hG hn h
  unfold wire_big at hF
  change SatL c [.slot 0 (intVP .u64 a_0), .slot 1 (intVP .i64 a_1)] a w at h
  refine regS mixed hn hG h [0, 1] (ov [] (op_assign (opc (sc _ (by decide)))) .nil) fun _ a w h => ?_
  refine regS mixed hn hG h [0, 1, 501, 500] (ob [] (op_alloc Tryd.zeroValue135 z135) .nil) fun b1 a w h => ?_
  refine wp_seq ?_
  refine regS mixed hn hG h [0, 1, 2, 501, 500, 3] (ov [1] (op_move q0) <| ov [] (op_move qi) .nil) fun _ a w h => ?_
  refine wp_block ?_
  obtain ⟨cr14, hl15, hF⟩ := bind_some hF
  refine wp_mono (wp_loopN (R := (List UInt8)) (S := Int × (List UInt8)) (fun s a w => SatL c [.slot 0 (intVP .u64 a_0), .slot 1 (intVP .i64 a_1), .slot 5 (lpVP (b1 0) 0), .slot 7 (intVP .i64 a_1), .slot 8 (intVP .i64 s.1), .res (lb (b1 0) 135 [bytesCk 8 s.2])] a w) (fun res e a w => match res with | .next s => e = .exit 0 ∧ SatL c [.slot 1 (intVP .i64 a_1), .slot 5 (lpVP (b1 0) 0), .res (lb (b1 0) 135 [bytesCk 8 s.2])] a w | .ret r => e = .ret ∧ RetOk Tryd.prog Tryd.f83 c (strVP r) (fun _ => []) a w) ?_ _ (0, (List.replicate 8 0)) _ _ _ (h.sub [0, 1, 2, 3, 4, 5] (by rfl)) hl15) ?_
  · clear hl15 hF h
    intro s a w o h hF
    obtain ⟨x4, x5⟩ := s
    change wire_big.b1 a_0 a_1 x4 x5 = some o at hF
    unfold wire_big.b1 at hF
    change SatL c [.slot 0 (intVP .u64 a_0), .slot 1 (intVP .i64 a_1), .slot 5 (lpVP (b1 0) 0), .slot 7 (intVP .i64 a_1), .slot 8 (intVP .i64 x4), .res (lb (b1 0) 135 [bytesCk 8 x5])] a w at h
    refine regS mixed hn hG h [0, 1, 2, 3, 4, 500, 5] (ov [4, 3] (op_bin bin_lss q0 q1) .nil) fun _ a w h => ?_
    refine wp_seq ?_
    refine cnd h hF 5 [0, 1, 2, 3, 4, 6] [0, 1, 2, 3, 4, 6] (fun hb11 hF h => ?_) (fun hb11 hF h => ?_)
    · refine wp_skip ?_
      show Code.wp Tryd.prog _ _ a w
      refine wp_seq ?_
      refine wp_block ?_
      refine regS mixed hn hG h [0, 1, 2, 500, 3, 4, 5] (ov [4] (op_move q0) <| ov [500] (op_assign q0) .nil) fun _ a w h => ?_
      obtain ⟨hv12, hF⟩ := ite_some hF
      obtain ⟨hv13, hF⟩ := ite_some hF
      refine reg mixed hn hG h [0, 1, 2, 4, 5, 500] (ov [3] (op_move q0) <| ov [0] (op_move q0) <| ov [1] (op_move q0) <| ov [500] (op_bin bin_sub q0 qi) <| ov [3] (op_move q0) <| ov [501, 500] (op_bin bin_sub q0 q1) <| ov [500] (op_bin bin_mul qi q0) <| ov [505, 500] (op_bin (bin_shr hv12) q0 q1) <| ov [500] (op_convert_int Tryd.underlying114 Tryd.underlying5 q0) <| ov [2, 508] (op_indexAddr_lb Tryd.underlying135 Tryd.sizeOf5 q0 q1 hv13) <| ou [500, 501] 6 (op_store_lbB (i := x4) [] [] Tryd.sizeOf5 q0 q1 rfl hv13) .nil) fun _ a w h => ?_
      show Code.wp Tryd.prog _ _ a w
      refine reg mixed hn hG h [0, 1, 2, 3, 500, 5] (ov [4] (op_bin bin_add q0 qi) <| od [500] 4 (op_move q0) .nil) fun _ a w h => ?_
      obtain rfl := Option.some.inj hF
      exact ⟨rfl, h.sub [0, 1, 2, 3, 4, 5] (by rfl)⟩
    · refine wp_exit ?_
      obtain rfl := Option.some.inj hF
      exact ⟨exit_ne _, rfl, h.sub [1, 2, 5] (by rfl)⟩
  · clear hl15
    intro e a w hq
    cases cr14 with
    | ret r16 =>
      obtain ⟨rfl, hq⟩ := hq
      obtain rfl := Option.some.inj hF
      exact ⟨.inl rfl, hq⟩
    | next s17 =>
      obtain ⟨y18, y19⟩ := s17
      obtain ⟨rfl, h⟩ := hq
      change SatL c [.slot 1 (intVP .i64 a_1), .slot 5 (lpVP (b1 0) 0), .res (lb (b1 0) 135 [bytesCk 8 y19])] a w at h
      refine inBlock_at ?_
      show Code.wp Tryd.prog _ _ a w
      obtain ⟨hv20, hF⟩ := ite_some hF
      obtain ⟨hv21, hF⟩ := ite_some hF
      refine regS mixed hn hG h [500] (ov [0] (op_move q0) <| ov [1, 500] (op_slice_lb (a := 0) (b := a_1) Tryd.underlying135 Tryd.sizeOf5 q0 rfl ⟨_, q1⟩ hv20) <| ov [500, 2] (op_str_lsl [] [] 1 Tryd.underlying129 Tryd.underlying5 Tryd.underlying9 q0 rfl rfl hv21 (by decide)) <| ov [500] (op_assign q0) .nil) fun _ a w h => ?_
      refine wp_ret ?_
      obtain rfl := Option.some.inj hF
      exact ⟨.inl rfl, ret1 h Tryd.results83 (r_tmp 0 rfl) [] [] rfl rfl rfl⟩

def wire_Word (a_0 : Int) : Option (List UInt8) := ((wire_big (IntKind.wrap .u64 a_0) 4).bind fun r1 => some r1)
theorem wire_Word_ok {a_0 : Int} {r : (List UInt8)} (hF : wire_Word a_0 = some r) : CallOk Tryd.prog KG 63 [(intVP .u32 a_0)] [] (fun _ => []) (strVP r) := by
  refine CallOk.intro 6 Tryd.func63 rfl Tryd.ntmps63 (Nat.le_of_ble_eq_true rfl) ?_
  intro c a w hG hn h
  unfold wire_Word at hF
  change SatL c [.slot 0 (intVP .u32 a_0)] a w at h
  refine regS mixed hn hG h [0] (ov [] (op_assign (opc (sc _ (by decide)))) .nil) fun _ a w h => ?_
  obtain ⟨r1, hr1, hF⟩ := bind_some hF
  refine regS mixed hn hG h [500] (ov [0] (op_move q0) <| ov [500] (op_convert_int Tryd.underlying51 Tryd.underlying114 q0) <| oc [500] [] Tryd.call83 (wire_big_ok hr1) ⟨q0, qi, trivial⟩ <| ov [500] (op_assign q0) .nil) fun _ a w h => ?_
  refine wp_ret ?_
  obtain rfl := Option.some.inj hF
  exact ⟨.inl rfl, ret1 h Tryd.results63 (r_tmp 0 rfl) [] [] rfl rfl rfl⟩

def wire_Text (a_0 : List UInt8) : Option (List UInt8) := ((wire_Word (IntKind.wrap .u32 (a_0.length : Int))).bind fun r1 => (if r1.length + a_0.length ≤ mxl then some (r1 ++ a_0) else none))
theorem wire_Text_ok {a_0 : List UInt8} {r : (List UInt8)} (hF : wire_Text a_0 = some r) : CallOk Tryd.prog KG 95 [(strVP a_0)] [] (fun _ => []) (strVP r) := by
  refine CallOk.intro 9 Tryd.func95 rfl Tryd.ntmps95 (Nat.le_of_ble_eq_true rfl) ?_
  intro c a w hG hn h
  unfold wire_Text at hF
  change SatL c [.slot 0 (strVP a_0)] a w at h
  refine regS mixed hn hG h [0] (ov [] (op_assign (opc (sc _ (by decide)))) .nil) fun _ a w h => ?_
  obtain ⟨r1, hr1, hF⟩ := bind_some hF
  obtain ⟨hv2, hF⟩ := ite_some hF
  refine regS mixed hn hG h [500] (ov [0] (op_move q0) <| ov [500] (op_len_str Tryd.underlying9 q0) <| ov [500] (op_convert_int Tryd.underlying3 Tryd.underlying51 q0) <| oc [500] [] Tryd.call63 (wire_Word_ok hr1) ⟨q0, trivial⟩ <| ov [0] (op_move q0) <| ov [501, 500] (op_bin (bin_sadd hv2) q0 q1) <| ov [500] (op_assign q0) .nil) fun _ a w h => ?_
  refine wp_ret ?_
  obtain rfl := Option.some.inj hF
  exact ⟨.inl rfl, ret1 h Tryd.results95 (r_tmp 0 rfl) [] [] rfl rfl rfl⟩

def digest_input.b1 (a_1 : List (List UInt8)) (x7 : Int) (x8 : O_Bld) : Option (Flow (List UInt8) (Int × O_Bld)) := (if (decide (x7 < (a_1.length : Int))) = true then (if (0 : Int) ≤ x7 ∧ x7 < a_1.length then ((wire_Text (a_1.getD x7.toNat default)).bind fun r17 => ((strings_Builder_WriteString x8 r17).bind fun r18 => some (.cont (IntKind.wrap .i64 (x7 + 1), r18.2.2)))) else none) else some (.brk (x7, x8)))
def digest_input (a_0 : Int) (a_1 : List (List UInt8)) : Option (List UInt8) := ((strings_Builder_WriteByte ⟨[]⟩ a_0).bind fun r2 => ((loopN (fun s : Int × O_Bld => digest_input.b1 a_1 s.1 s.2) (((a_1.length : Int) - 0 : Int).toNat + 2) (0, r2.2)).bind fun cr => match cr with | .ret r => some r | .next (y23, y24) => ((strings_Builder_String y24).bind fun r25 => some r25)))
theorem digest_input_ok {a_0 : Int} {a_1 : List (List UInt8)} {r : (List UInt8)} (hF : digest_input a_0 a_1 = some r) : CallOk Tryd.prog KG 80 [(intVP .u8 a_0), (slVP strC a_1)] [] (fun _ => []) (strVP r) := by
  refine CallOk.intro 21 Tryd.func80 rfl Tryd.ntmps80 (Nat.le_of_ble_eq_true rfl) ?_
  intro c a w hG hn h
  unfold digest_input at hF
  change SatL c [.slot 0 (intVP .u8 a_0), .slot 1 (slVP strC a_1)] a w at h
  refine regS mixed hn hG h [0, 1] (ov [] (op_assign (opc (sc _ (by decide)))) .nil) fun _ a w h => ?_
  refine regS mixed hn hG h [0, 1, 501, 500] (ob [] (op_alloc Tryd.zeroValue143 zo143) .nil) fun b1 a w h => ?_
  replace h := h.conv 3 rfl Bld_new
  replace h := h.slotc 2 rfl (fun _ _ h => lp_eqv h)
  replace h := h.sub [0, 1, 2, 3] (by rfl)
  change SatL c [.slot 0 (intVP .u8 a_0), .slot 1 (slVP strC a_1), .slot 5 (eqVP (b1 0)), .res (Bld_e (b1 0) (some ⟨[]⟩))] a w at h
  obtain ⟨r2, hr2, hF⟩ := bind_some hF
  refine regS mixed hn hG h [1, 2, 500] (ov [0] (op_move q0) <| oc [2, 500] [3] Tryd.call93 (strings_Builder_WriteByte_ok hr2) ⟨q0, q1, trivial⟩ .nil) fun _ a w h => ?_
  refine wp_seq ?_
  refine regS mixed hn hG h [1, 502, 501, 500, 2] (ov [0] (op_move q0) <| ov [500] (op_len_sl Tryd.underlying101 q0) <| ov [] (op_move qi) .nil) fun _ a w h => ?_
  refine wp_block ?_
  obtain ⟨cr19, hl20, hF⟩ := bind_some hF
  refine wp_mono (wp_loopN (R := (List UInt8)) (S := Int × O_Bld) (fun s a w => SatL c [.slot 5 (eqVP (b1 0)), .slot 10 (slVP strC a_1), .slot 11 (intVP .i64 (a_1.length : Int)), .slot 12 (intVP .i64 s.1), .res (Bld_e (b1 0) (some s.2))] a w) (fun res e a w => match res with | .next s => e = .exit 0 ∧ SatL c [.slot 5 (eqVP (b1 0)), .res (Bld_e (b1 0) (some s.2))] a w | .ret r => e = .ret ∧ RetOk Tryd.prog Tryd.f80 c (strVP r) (fun _ => []) a w) ?_ _ (0, r2.2) _ _ _ (h.sub [0, 1, 2, 3, 4] (by rfl)) hl20) ?_
  · clear hl20 hF h
    intro s a w o h hF
    obtain ⟨x7, x8⟩ := s
    change digest_input.b1 a_1 x7 x8 = some o at hF
    unfold digest_input.b1 at hF
    change SatL c [.slot 5 (eqVP (b1 0)), .slot 10 (slVP strC a_1), .slot 11 (intVP .i64 (a_1.length : Int)), .slot 12 (intVP .i64 x7), .res (Bld_e (b1 0) (some x8))] a w at h
    refine regS mixed hn hG h [0, 1, 2, 3, 500, 4] (ov [3, 2] (op_bin bin_lss q0 q1) .nil) fun _ a w h => ?_
    refine wp_seq ?_
    refine cnd h hF 4 [0, 1, 2, 3, 5] [0, 1, 2, 3, 5] (fun hb15 hF h => ?_) (fun hb15 hF h => ?_)
    · refine wp_skip ?_
      show Code.wp Tryd.prog _ _ a w
      refine wp_seq ?_
      refine wp_block ?_
      obtain ⟨hv16, hF⟩ := ite_some hF
      refine regS mixed hn hG h [0, 500, 1, 2, 3, 4] (ov [1, 3] (op_indexAddr_sl Tryd.underlying101 Tryd.sizeOf9 lens_strC q0 q1 hv16) <| ov [500] (op_load_pp1 [] Tryd.isAgg9 q0) <| ov [500] (op_assign q0) .nil) fun _ a w h => ?_
      obtain ⟨r17, hr17, hF⟩ := bind_some hF
      obtain ⟨r18, hr18, hF⟩ := bind_some hF
      refine reg mixed hn hG h [0, 2, 3, 4, 500] (ov [1] (op_move q0) <| oc [500] [] Tryd.call95 (wire_Text_ok hr17) ⟨q0, trivial⟩ <| oc [0, 500] [5] Tryd.call94 (strings_Builder_WriteString_ok hr18) ⟨q0, q1, trivial⟩ .nil) fun _ a w h => ?_
      show Code.wp Tryd.prog _ _ a w
      refine reg mixed hn hG h [0, 1, 2, 500, 4] (ov [3] (op_bin bin_add q0 qi) <| od [500] 3 (op_move q0) .nil) fun _ a w h => ?_
      obtain rfl := Option.some.inj hF
      exact ⟨rfl, h.sub [0, 1, 2, 3, 4] (by rfl)⟩
    · refine wp_exit ?_
      obtain rfl := Option.some.inj hF
      exact ⟨exit_ne _, rfl, h.sub [0, 4] (by rfl)⟩
  · clear hl20
    intro e a w hq
    cases cr19 with
    | ret r21 =>
      obtain ⟨rfl, hq⟩ := hq
      obtain rfl := Option.some.inj hF
      exact ⟨.inl rfl, hq⟩
    | next s22 =>
      obtain ⟨y23, y24⟩ := s22
      obtain ⟨rfl, h⟩ := hq
      change SatL c [.slot 5 (eqVP (b1 0)), .res (Bld_e (b1 0) (some y24))] a w at h
      refine inBlock_at ?_
      show Code.wp Tryd.prog _ _ a w
      obtain ⟨r25, hr25, hF⟩ := bind_some hF
      refine regS mixed hn hG h [500] (oc [0] [1] Tryd.call88 (strings_Builder_String_ok hr25) ⟨q0, trivial⟩ <| ov [500] (op_assign q0) .nil) fun _ a w h => ?_
      refine wp_ret ?_
      obtain rfl := Option.some.inj hF
      exact ⟨.inl rfl, ret1 h Tryd.results80 (r_tmp 0 rfl) [] [] rfl rfl rfl⟩

def sha_Begin : Option S_sha_State := some (S_sha_State.mk gFirst [] (0 : Int))
theorem sha_Begin_ok {r : S_sha_State} (hF : sha_Begin = some r) : CallOk Tryd.prog KG 96 [] [] (fun _ => []) (aggVP [intsCk .u32 8 r.f_Words, one (strVP r.f_Rest), one (intVP .u64 r.f_Count)]) := by
  refine CallOk.intro 3 Tryd.func96 rfl Tryd.ntmps96 (Nat.le_of_ble_eq_true rfl) ?_
  intro c a w hG hn h
  unfold sha_Begin at hF
  change SatL c [] a w at h
  refine regS mixed hn hG h [501, 500] (ob [] (op_alloc Tryd.zeroValue158 z158) .nil) fun b1 a w h => ?_
  refine regS mixed hn hG h [0, 500] (ov [] (op_load_pp [intsCk .u32 8 gFirst] [] Tryd.isAgg150 Tryd.sizeOf150 (opg (fun Φ h => h.1)) rfl) <| ov [500] (op_build [(0, .tmp 1)] rfl bu158 z158 ⟨[], [intsCk .u32 8 (List.replicate 8 0)], [one (strVP []), one (intVP .u64 (0 : Int))], [intsCk .u32 8 gFirst], _, rfl, rfl, rfl, q0, (cells_agg _), rfl⟩) <| ou [0, 500] 1 (op_store_w Tryd.sizeOf158 q0 q1 (cells_agg _)) .nil) fun _ a w h => ?_
  refine wp_ret ?_
  obtain rfl := Option.some.inj hF
  exact ⟨.inl rfl, ret1 h Tryd.results96 (r_cell 0 1 rfl rfl Tryd.isAgg158 Tryd.sizeOf158 rfl) [] [] rfl rfl rfl⟩

def bits_RotateLeft32 (a_0 : Int) (a_1 : Int) : Option Int := some (bits .or .u32 (shl .u32 a_0 (bits .and .u64 (IntKind.wrap .u64 a_1) 31)) (shr .u32 a_0 (IntKind.wrap .u64 (32 - (bits .and .u64 (IntKind.wrap .u64 a_1) 31)))))
theorem bits_RotateLeft32_ok {a_0 : Int} {a_1 : Int} {r : Int} (hF : bits_RotateLeft32 a_0 a_1 = some r) : CallOk Tryd.prog KG 108 [(intVP .u32 a_0), (intVP .i64 a_1)] [] (fun _ => []) (intVP .u32 r) := by
  refine CallOk.intro 17 Tryd.func108 rfl Tryd.ntmps108 (Nat.le_of_ble_eq_true rfl) ?_
  intro c a w hG hn h
  unfold bits_RotateLeft32 at hF
  change SatL c [.slot 0 (intVP .u32 a_0), .slot 1 (intVP .i64 a_1)] a w at h
  refine regS mixed hn hG h [0, 1] (ov [] (op_assign qi) .nil) fun _ a w h => ?_
  refine regS mixed hn hG h [0, 500] (ov [1] (op_move q0) <| ov [500] (op_convert_int Tryd.underlying3 Tryd.underlying128 q0) <| ov [500] (op_bin bin_and q0 qi) <| ov [500] (op_assign q0) .nil) fun _ a w h => ?_
  refine regS mixed hn hG h [500] (ov [0] (op_move q0) <| ov [1] (op_move q0) <| ov [501, 500] (op_bin (bin_shlu rfl) q0 q1) <| ov [0] (op_move q0) <| ov [1] (op_move q0) <| ov [500] (op_bin bin_sub qi q0) <| ov [502, 500] (op_bin (bin_shru rfl) q0 q1) <| ov [504, 500] (op_bin bin_or q0 q1) <| ov [500] (op_assign q0) .nil) fun _ a w h => ?_
  refine wp_ret ?_
  obtain rfl := Option.some.inj hF
  exact ⟨.inl rfl, ret1 h Tryd.results108 (r_tmp 0 rfl) [] [] rfl rfl rfl⟩

def sha_schedule.b1 (a_0 : List UInt8) (x18 : Int) (x19 : List Int) : Option (Flow (List Int) (Int × (List Int))) := (if (decide (x18 < (64 : Int))) = true then (if (decide (x18 < (16 : Int))) = true then (if (0 : Int) ≤ IntKind.wrap .i64 (4 * x18) ∧ IntKind.wrap .i64 (4 * x18) ≤ IntKind.wrap .i64 ((IntKind.wrap .i64 (4 * x18)) + 4) ∧ IntKind.wrap .i64 ((IntKind.wrap .i64 (4 * x18)) + 4) ≤ a_0.length then (if (0 : Int) ≤ 0 ∧ (0 : Int) < ((a_0.take (IntKind.wrap .i64 ((IntKind.wrap .i64 (4 * x18)) + 4)).toNat).drop (IntKind.wrap .i64 (4 * x18)).toNat).length then (if (0 : Int) ≤ 1 ∧ (1 : Int) < ((a_0.take (IntKind.wrap .i64 ((IntKind.wrap .i64 (4 * x18)) + 4)).toNat).drop (IntKind.wrap .i64 (4 * x18)).toNat).length then (if (0 : Int) ≤ 2 ∧ (2 : Int) < ((a_0.take (IntKind.wrap .i64 ((IntKind.wrap .i64 (4 * x18)) + 4)).toNat).drop (IntKind.wrap .i64 (4 * x18)).toNat).length then (if (0 : Int) ≤ 3 ∧ (3 : Int) < ((a_0.take (IntKind.wrap .i64 ((IntKind.wrap .i64 (4 * x18)) + 4)).toNat).drop (IntKind.wrap .i64 (4 * x18)).toNat).length then (if (0 : Int) ≤ x18 ∧ x18 < 64 then some (.cont (IntKind.wrap .i64 (x18 + 1), x19.set x18.toNat (bits .or .u32 (bits .or .u32 (bits .or .u32 (shl .u32 (IntKind.wrap .u32 ((((a_0.take (IntKind.wrap .i64 ((IntKind.wrap .i64 (4 * x18)) + 4)).toNat).drop (IntKind.wrap .i64 (4 * x18)).toNat).getD (0 : Int).toNat 0).toNat)) 24) (shl .u32 (IntKind.wrap .u32 ((((a_0.take (IntKind.wrap .i64 ((IntKind.wrap .i64 (4 * x18)) + 4)).toNat).drop (IntKind.wrap .i64 (4 * x18)).toNat).getD (1 : Int).toNat 0).toNat)) 16)) (shl .u32 (IntKind.wrap .u32 ((((a_0.take (IntKind.wrap .i64 ((IntKind.wrap .i64 (4 * x18)) + 4)).toNat).drop (IntKind.wrap .i64 (4 * x18)).toNat).getD (2 : Int).toNat 0).toNat)) 8)) (IntKind.wrap .u32 ((((a_0.take (IntKind.wrap .i64 ((IntKind.wrap .i64 (4 * x18)) + 4)).toNat).drop (IntKind.wrap .i64 (4 * x18)).toNat).getD (3 : Int).toNat 0).toNat))))) else none) else none) else none) else none) else none) else none) else (if (0 : Int) ≤ IntKind.wrap .i64 (x18 - 15) ∧ IntKind.wrap .i64 (x18 - 15) < 64 then (if (0 : Int) ≤ IntKind.wrap .i64 (x18 - 2) ∧ IntKind.wrap .i64 (x18 - 2) < 64 then ((bits_RotateLeft32 (x19.getD (IntKind.wrap .i64 (x18 - 15)).toNat 0) (-7 : Int)).bind fun r49 => ((bits_RotateLeft32 (x19.getD (IntKind.wrap .i64 (x18 - 15)).toNat 0) (-18 : Int)).bind fun r50 => ((bits_RotateLeft32 (x19.getD (IntKind.wrap .i64 (x18 - 2)).toNat 0) (-17 : Int)).bind fun r51 => ((bits_RotateLeft32 (x19.getD (IntKind.wrap .i64 (x18 - 2)).toNat 0) (-19 : Int)).bind fun r52 => (if (0 : Int) ≤ IntKind.wrap .i64 (x18 - 16) ∧ IntKind.wrap .i64 (x18 - 16) < 64 then (if (0 : Int) ≤ IntKind.wrap .i64 (x18 - 7) ∧ IntKind.wrap .i64 (x18 - 7) < 64 then (if (0 : Int) ≤ x18 ∧ x18 < 64 then some (.cont (IntKind.wrap .i64 (x18 + 1), x19.set x18.toNat (IntKind.wrap .u32 ((IntKind.wrap .u32 ((IntKind.wrap .u32 ((x19.getD (IntKind.wrap .i64 (x18 - 16)).toNat 0) + (bits .xor .u32 (bits .xor .u32 r49 r50) (shr .u32 (x19.getD (IntKind.wrap .i64 (x18 - 15)).toNat 0) 3)))) + (x19.getD (IntKind.wrap .i64 (x18 - 7)).toNat 0))) + (bits .xor .u32 (bits .xor .u32 r51 r52) (shr .u32 (x19.getD (IntKind.wrap .i64 (x18 - 2)).toNat 0) 10)))))) else none) else none) else none))))) else none) else none)) else some (.brk (x18, x19)))
def sha_schedule (a_0 : List UInt8) : Option (List Int) := ((loopN (fun s : Int × (List Int) => sha_schedule.b1 a_0 s.1 s.2) ((64 - 0 : Int).toNat + 2) (0, (List.replicate 64 0))).bind fun cr => match cr with | .ret r => some r | .next (y60, y61) => some y61)
theorem sha_schedule_ok {a_0 : List UInt8} {r : (List Int)} (hF : sha_schedule a_0 = some r) : CallOk Tryd.prog KG 107 [(strVP a_0)] [] (fun _ => []) (aggVP [intsCk .u32 64 r]) := by
  refine CallOk.intro 83 Tryd.func107 rfl Tryd.ntmps107 (Nat.le_of_ble_eq_true rfl) ?_
  intro c a w hG hn h
  unfold sha_schedule at hF
  change SatL c [.slot 0 (strVP a_0)] a w at h
  refine regS mixed hn hG h [0, 501, 500] (ob [] (op_alloc Tryd.zeroValue170 z170) .nil) fun b1 a w h => ?_
  refine regS mixed hn hG h [0, 1, 501, 2, 500] (ob [] (op_alloc Tryd.zeroValue170 z170) .nil) fun b2 a w h => ?_
  refine wp_seq ?_
  refine regS mixed hn hG h [0, 1, 2, 500, 3, 4] (ov [] (op_move qi) .nil) fun _ a w h => ?_
  refine wp_block ?_
  obtain ⟨cr56, hl57, hF⟩ := bind_some hF
  refine wp_mono (wp_loopN (R := (List Int)) (S := Int × (List Int)) (fun s a w => SatL c [.slot 0 (strVP a_0), .slot 2 (lpVP (b1 0) 0), .slot 3 (lpVP (b2 0) 0), .slot 10 (intVP .i64 s.1), .res (lb (b1 0) 170 [intsCk .u32 64 (List.replicate 64 0)]), .res (lb (b2 0) 170 [intsCk .u32 64 s.2])] a w) (fun res e a w => match res with | .next s => e = .exit 0 ∧ SatL c [.slot 2 (lpVP (b1 0) 0), .slot 3 (lpVP (b2 0) 0), .res (lb (b1 0) 170 [intsCk .u32 64 (List.replicate 64 0)]), .res (lb (b2 0) 170 [intsCk .u32 64 s.2])] a w | .ret r => e = .ret ∧ RetOk Tryd.prog Tryd.f107 c (aggVP [intsCk .u32 64 r]) (fun _ => []) a w) ?_ _ (0, (List.replicate 64 0)) _ _ _ (h.sub [0, 1, 2, 3, 4, 5] (by rfl)) hl57) ?_
  · clear hl57 hF h
    intro s a w o h hF
    obtain ⟨x18, x19⟩ := s
    change sha_schedule.b1 a_0 x18 x19 = some o at hF
    unfold sha_schedule.b1 at hF
    change SatL c [.slot 0 (strVP a_0), .slot 2 (lpVP (b1 0) 0), .slot 3 (lpVP (b2 0) 0), .slot 10 (intVP .i64 x18), .res (lb (b1 0) 170 [intsCk .u32 64 (List.replicate 64 0)]), .res (lb (b2 0) 170 [intsCk .u32 64 x19])] a w at h
    refine regS mixed hn hG h [0, 1, 2, 3, 500, 4, 5] (ov [3] (op_bin bin_lss q0 qi) .nil) fun _ a w h => ?_
    refine wp_seq ?_
    refine cnd h hF 4 [0, 1, 2, 3, 5, 6] [0, 1, 2, 3, 5, 6] (fun hb39 hF h => ?_) (fun hb39 hF h => ?_)
    · refine wp_skip ?_
      show Code.wp Tryd.prog _ _ a w
      refine wp_seq ?_
      refine wp_block ?_
      refine regS mixed hn hG h [0, 1, 2, 500, 3, 4, 5] (ov [3] (op_move q0) <| ov [500] (op_assign q0) .nil) fun _ a w h => ?_
      refine wp_seq ?_
      refine regS mixed hn hG h [0, 1, 2, 3, 4, 500, 5, 6] (ov [3] (op_move q0) <| ov [500] (op_bin bin_lss q0 qi) .nil) fun _ a w h => ?_
      refine cnd h hF 5 [0, 1, 2, 3, 4, 6, 7] [0, 1, 2, 3, 4, 6, 7] (fun hb40 hF h => ?_) (fun hb40 hF h => ?_)
      · obtain ⟨hv41, hF⟩ := ite_some hF
        refine regS mixed hn hG h [0, 1, 2, 3, 500, 4, 5, 6] (ov [0] (op_move q0) <| ov [3] (op_move q0) <| ov [500] (op_bin bin_mul qi q0) <| ov [3] (op_move q0) <| ov [500] (op_bin bin_mul qi q0) <| ov [500] (op_bin bin_add q0 qi) <| ov [505, 503, 500] (op_slice_str (a := IntKind.wrap .i64 (4 * x18)) (b := IntKind.wrap .i64 ((IntKind.wrap .i64 (4 * x18)) + 4)) Tryd.underlying9 q0 ⟨_, q1⟩ ⟨_, q2⟩ hv41) <| ov [500] (op_assign q0) .nil) fun _ a w h => ?_
        obtain ⟨hv42, hF⟩ := ite_some hF
        obtain ⟨hv43, hF⟩ := ite_some hF
        obtain ⟨hv44, hF⟩ := ite_some hF
        obtain ⟨hv45, hF⟩ := ite_some hF
        obtain ⟨hv46, hF⟩ := ite_some hF
        refine regS mixed hn hG h [0, 1, 2, 5, 6, 500] (ov [3] (op_move q0) <| ov [4] (op_move q0) <| ov [500] (op_index_str Tryd.underlying9 q0 qi hv42) <| ov [500] (op_convert_int Tryd.underlying5 Tryd.underlying51 q0) <| ov [500] (op_bin (bin_shlu rfl) q0 qi) <| ov [4] (op_move q0) <| ov [500] (op_index_str Tryd.underlying9 q0 qi hv43) <| ov [500] (op_convert_int Tryd.underlying5 Tryd.underlying51 q0) <| ov [500] (op_bin (bin_shlu rfl) q0 qi) <| ov [504, 500] (op_bin bin_or q0 q1) <| ov [4] (op_move q0) <| ov [500] (op_index_str Tryd.underlying9 q0 qi hv44) <| ov [500] (op_convert_int Tryd.underlying5 Tryd.underlying51 q0) <| ov [500] (op_bin (bin_shlu rfl) q0 qi) <| ov [504, 500] (op_bin bin_or q0 q1) <| ov [4] (op_move q0) <| ov [500] (op_index_str Tryd.underlying9 q0 qi hv45) <| ov [500] (op_convert_int Tryd.underlying5 Tryd.underlying51 q0) <| ov [503, 500] (op_bin bin_or q0 q1) <| ov [2, 518] (op_indexAddr_lb Tryd.underlying170 Tryd.sizeOf51 q0 q1 hv46) <| ou [500, 501] 7 (op_store_lbI (i := x18) [] [] Tryd.sizeOf51 q0 q1 rfl hv46) .nil) fun _ a w h => ?_
        refine wp_exit ?_
        show Code.wp Tryd.prog _ _ a w
        refine reg mixed hn hG h [0, 1, 2, 500, 4, 5] (ov [3] (op_bin bin_add q0 qi) <| od [500] 3 (op_move q0) .nil) fun _ a w h => ?_
        obtain rfl := Option.some.inj hF
        exact ⟨rfl, h.sub [0, 1, 2, 3, 4, 5] (by rfl)⟩
      · refine wp_skip ?_
        show Code.wp Tryd.prog _ _ a w
        obtain ⟨hv47, hF⟩ := ite_some hF
        obtain ⟨hv48, hF⟩ := ite_some hF
        refine regS mixed hn hG h [0, 1, 2, 3, 501, 500, 4, 5, 6] (ov [3] (op_move q0) <| ov [500] (op_bin bin_sub q0 qi) <| ov [2, 500] (op_indexAddr_lb Tryd.underlying170 Tryd.sizeOf51 q0 q1 hv47) <| ov [500, 6] (op_load_lbI (i := IntKind.wrap .i64 (x18 - 15)) [] [] 1 Tryd.isAgg51 q0 rfl rfl hv47) <| ov [3] (op_move q0) <| ov [500] (op_bin bin_sub q0 qi) <| ov [2, 500] (op_indexAddr_lb Tryd.underlying170 Tryd.sizeOf51 q0 q1 hv48) <| ov [500, 6] (op_load_lbI (i := IntKind.wrap .i64 (x18 - 2)) [] [] 1 Tryd.isAgg51 q0 rfl rfl hv48) <| ov [504] (op_assign q0) <| ov [501] (op_assign q0) .nil) fun _ a w h => ?_
        obtain ⟨r49, hr49, hF⟩ := bind_some hF
        obtain ⟨r50, hr50, hF⟩ := bind_some hF
        refine regS mixed hn hG h [0, 1, 2, 3, 5, 500, 6, 7, 8] (ov [4] (op_move q0) <| oc [500] [] Tryd.call108 (bits_RotateLeft32_ok hr49) ⟨q0, qi, trivial⟩ <| ov [4] (op_move q0) <| oc [500] [] Tryd.call108 (bits_RotateLeft32_ok hr50) ⟨q0, qi, trivial⟩ <| ov [502, 500] (op_bin bin_xor q0 q1) <| ov [4] (op_move q0) <| ov [500] (op_bin (bin_shru rfl) q0 qi) <| ov [502, 500] (op_bin bin_xor q0 q1) <| ov [500] (op_assign q0) .nil) fun _ a w h => ?_
        obtain ⟨r51, hr51, hF⟩ := bind_some hF
        obtain ⟨r52, hr52, hF⟩ := bind_some hF
        refine regS mixed hn hG h [0, 1, 2, 3, 5, 500, 6, 7, 8] (ov [4] (op_move q0) <| oc [500] [] Tryd.call108 (bits_RotateLeft32_ok hr51) ⟨q0, qi, trivial⟩ <| ov [4] (op_move q0) <| oc [500] [] Tryd.call108 (bits_RotateLeft32_ok hr52) ⟨q0, qi, trivial⟩ <| ov [502, 500] (op_bin bin_xor q0 q1) <| ov [4] (op_move q0) <| ov [500] (op_bin (bin_shru rfl) q0 qi) <| ov [502, 500] (op_bin bin_xor q0 q1) <| ov [500] (op_assign q0) .nil) fun _ a w h => ?_
        obtain ⟨hv53, hF⟩ := ite_some hF
        obtain ⟨hv54, hF⟩ := ite_some hF
        obtain ⟨hv55, hF⟩ := ite_some hF
        refine reg mixed hn hG h [0, 1, 2, 6, 7, 500] (ov [3] (op_move q0) <| ov [3] (op_move q0) <| ov [500] (op_bin bin_sub q0 qi) <| ov [2, 500] (op_indexAddr_lb Tryd.underlying170 Tryd.sizeOf51 q0 q1 hv53) <| ov [500, 8] (op_load_lbI (i := IntKind.wrap .i64 (x18 - 16)) [] [] 1 Tryd.isAgg51 q0 rfl rfl hv53) <| ov [4] (op_move q0) <| ov [501, 500] (op_bin bin_add q0 q1) <| ov [3] (op_move q0) <| ov [500] (op_bin bin_sub q0 qi) <| ov [2, 500] (op_indexAddr_lb Tryd.underlying170 Tryd.sizeOf51 q0 q1 hv54) <| ov [500, 8] (op_load_lbI (i := IntKind.wrap .i64 (x18 - 7)) [] [] 1 Tryd.isAgg51 q0 rfl rfl hv54) <| ov [504, 500] (op_bin bin_add q0 q1) <| ov [5] (op_move q0) <| ov [501, 500] (op_bin bin_add q0 q1) <| ov [2, 513] (op_indexAddr_lb Tryd.underlying170 Tryd.sizeOf51 q0 q1 hv55) <| ou [500, 501] 8 (op_store_lbI (i := x18) [] [] Tryd.sizeOf51 q0 q1 rfl hv55) .nil) fun _ a w h => ?_
        show Code.wp Tryd.prog _ _ a w
        refine reg mixed hn hG h [0, 1, 2, 500, 4, 5] (ov [3] (op_bin bin_add q0 qi) <| od [500] 3 (op_move q0) .nil) fun _ a w h => ?_
        obtain rfl := Option.some.inj hF
        exact ⟨rfl, h.sub [0, 1, 2, 3, 4, 5] (by rfl)⟩
    · refine wp_exit ?_
      obtain rfl := Option.some.inj hF
      exact ⟨exit_ne _, rfl, h.sub [1, 2, 4, 5] (by rfl)⟩
  · clear hl57
    intro e a w hq
    cases cr56 with
    | ret r58 =>
      obtain ⟨rfl, hq⟩ := hq
      obtain rfl := Option.some.inj hF
      exact ⟨.inl rfl, hq⟩
    | next s59 =>
      obtain ⟨y60, y61⟩ := s59
      obtain ⟨rfl, h⟩ := hq
      change SatL c [.slot 2 (lpVP (b1 0) 0), .slot 3 (lpVP (b2 0) 0), .res (lb (b1 0) 170 [intsCk .u32 64 (List.replicate 64 0)]), .res (lb (b2 0) 170 [intsCk .u32 64 y61])] a w at h
      refine inBlock_at ?_
      show Code.wp Tryd.prog _ _ a w
      refine regS mixed hn hG h [0, 500] (ov [1, 3] (op_load_w 1 Tryd.isAgg170 Tryd.sizeOf170 q0) <| ou [0, 500] 2 (op_store_w Tryd.sizeOf170 q0 q1 (cells_agg _)) .nil) fun _ a w h => ?_
      refine wp_ret ?_
      obtain rfl := Option.some.inj hF
      exact ⟨.inl rfl, ret1 h Tryd.results107 (r_cell 0 1 rfl rfl Tryd.isAgg170 Tryd.sizeOf170 rfl) [] [] rfl rfl rfl⟩

def sha_Block.b1 (r4 : (List Int)) (x14 : Int) (x15 : List Int) : Option (Flow (List Int) (Int × (List Int))) := (if (decide (x14 < (64 : Int))) = true then ((bits_RotateLeft32 (x15.getD (4 : Int).toNat 0) (-6 : Int)).bind fun r27 => ((bits_RotateLeft32 (x15.getD (4 : Int).toNat 0) (-11 : Int)).bind fun r28 => ((bits_RotateLeft32 (x15.getD (4 : Int).toNat 0) (-25 : Int)).bind fun r29 => (if (0 : Int) ≤ x14 ∧ x14 < 64 then ((bits_RotateLeft32 (x15.getD (0 : Int).toNat 0) (-2 : Int)).bind fun r31 => ((bits_RotateLeft32 (x15.getD (0 : Int).toNat 0) (-13 : Int)).bind fun r32 => ((bits_RotateLeft32 (x15.getD (0 : Int).toNat 0) (-22 : Int)).bind fun r33 => some (.cont (IntKind.wrap .i64 (x14 + 1), ((x15.take (1 : Int).toNat ++ (x15.drop (0 : Int).toNat).take (min ((7 : Int).toNat - (0 : Int).toNat) ((8 : Int).toNat - (1 : Int).toNat)) ++ x15.drop ((1 : Int).toNat + (min ((7 : Int).toNat - (0 : Int).toNat) ((8 : Int).toNat - (1 : Int).toNat)))).set (4 : Int).toNat (IntKind.wrap .u32 (((x15.take (1 : Int).toNat ++ (x15.drop (0 : Int).toNat).take (min ((7 : Int).toNat - (0 : Int).toNat) ((8 : Int).toNat - (1 : Int).toNat)) ++ x15.drop ((1 : Int).toNat + (min ((7 : Int).toNat - (0 : Int).toNat) ((8 : Int).toNat - (1 : Int).toNat)))).getD (4 : Int).toNat 0) + (IntKind.wrap .u32 ((IntKind.wrap .u32 ((IntKind.wrap .u32 ((IntKind.wrap .u32 ((x15.getD (7 : Int).toNat 0) + (bits .xor .u32 (bits .xor .u32 r27 r28) r29))) + (bits .xor .u32 (bits .and .u32 (x15.getD (4 : Int).toNat 0) (x15.getD (5 : Int).toNat 0)) (bits .and .u32 (inot .u32 (x15.getD (4 : Int).toNat 0)) (x15.getD (6 : Int).toNat 0))))) + (gConst.getD x14.toNat 0))) + (r4.getD x14.toNat 0)))))).set (0 : Int).toNat (IntKind.wrap .u32 ((IntKind.wrap .u32 ((IntKind.wrap .u32 ((IntKind.wrap .u32 ((IntKind.wrap .u32 ((IntKind.wrap .u32 ((x15.getD (7 : Int).toNat 0) + (bits .xor .u32 (bits .xor .u32 r27 r28) r29))) + (bits .xor .u32 (bits .and .u32 (x15.getD (4 : Int).toNat 0) (x15.getD (5 : Int).toNat 0)) (bits .and .u32 (inot .u32 (x15.getD (4 : Int).toNat 0)) (x15.getD (6 : Int).toNat 0))))) + (gConst.getD x14.toNat 0))) + (r4.getD x14.toNat 0))) + (bits .xor .u32 (bits .xor .u32 r31 r32) r33))) + (bits .xor .u32 (bits .xor .u32 (bits .and .u32 (x15.getD (0 : Int).toNat 0) (x15.getD (1 : Int).toNat 0)) (bits .and .u32 (x15.getD (0 : Int).toNat 0) (x15.getD (2 : Int).toNat 0))) (bits .and .u32 (x15.getD (1 : Int).toNat 0) (x15.getD (2 : Int).toNat 0)))))))))) else none)))) else some (.brk (x14, x15)))
def sha_Block.b2 (a_0 : List Int) (x41 : Int) (x42 : List Int) : Option (Flow (List Int) (Int × (List Int))) := (if (decide (x41 < (8 : Int))) = true then (if (0 : Int) ≤ x41 ∧ x41 < 8 then some (.cont (IntKind.wrap .i64 (x41 + 1), x42.set x41.toNat (IntKind.wrap .u32 ((x42.getD x41.toNat 0) + (a_0.getD x41.toNat 0))))) else none) else some (.brk (x41, x42)))
def sha_Block (a_0 : List Int) (a_1 : List UInt8) : Option (List Int) := (if (!decide ((a_1.length : Int) = (64 : Int))) = true then some a_0 else ((sha_schedule a_1).bind fun r4 => ((loopN (fun s : Int × (List Int) => sha_Block.b1 r4 s.1 s.2) ((64 - 0 : Int).toNat + 2) (0, a_0)).bind fun cr => match cr with | .ret r => some r | .next (y38, y39) => ((loopN (fun s : Int × (List Int) => sha_Block.b2 a_0 s.1 s.2) ((8 - 0 : Int).toNat + 2) (0, y39)).bind fun cr => match cr with | .ret r => some r | .next (y53, y54) => some y54))))
theorem sha_Block_ok {a_0 : List Int} {a_1 : List UInt8} {r : (List Int)} (hF : sha_Block a_0 a_1 = some r) : CallOk Tryd.prog KG 102 [(aggVP [intsCk .u32 8 a_0]), (strVP a_1)] [] (fun _ => []) (aggVP [intsCk .u32 8 r]) := by
  refine CallOk.intro 113 Tryd.func102 rfl Tryd.ntmps102 (Nat.le_of_ble_eq_true rfl) ?_
  intro c a w hG hn h
  unfold sha_Block at hF
  change SatL c [.slot 0 (aggVP [intsCk .u32 8 a_0]), .slot 1 (strVP a_1)] a w at h
  refine regS mixed hn hG h [1, 503, 501, 502, 500] (ob [0] (op_box q0 (cells_agg _)) <| ob [] (op_alloc Tryd.zeroValue150 z150) .nil) fun b1 a w h => ?_
  refine wp_seq ?_
  refine regS mixed hn hG h [0, 1, 2, 500, 3, 4] (ov [0] (op_move q0) <| ov [500] (op_len_str Tryd.underlying9 q0) <| ov [500] (op_bin bin_neq q0 qi) .nil) fun _ a w h => ?_
  refine cnd h hF 3 [1, 2, 4, 5] [0, 1, 2, 4, 5] (fun hb3 hF h => ?_) (fun hb3 hF h => ?_)
  · refine regS mixed hn hG h [1, 500] (ov [0, 2] (op_load_w 1 Tryd.isAgg150 Tryd.sizeOf150 q0) <| ou [1, 500] 3 (op_store_w Tryd.sizeOf150 q0 q1 (cells_agg _)) .nil) fun _ a w h => ?_
    refine wp_ret ?_
    obtain rfl := Option.some.inj hF
    exact ⟨.inl rfl, ret1 h Tryd.results102 (r_cell 0 1 rfl rfl Tryd.isAgg150 Tryd.sizeOf150 rfl) [] [] rfl rfl rfl⟩
  · refine wp_skip ?_
    show Code.wp Tryd.prog _ _ a w
    obtain ⟨r4, hr4, hF⟩ := bind_some hF
    refine regS mixed hn hG h [1, 2, 502, 3, 4, 500] (ov [0] (op_move q0) <| oc [500] [] Tryd.call107 (sha_schedule_ok hr4) ⟨q0, trivial⟩ <| ob [] (op_alloc Tryd.zeroValue170 z170) <| og [501, 502] [500] [.res 2 100000 (fun v1_ _ => (lb (v1_) 170 [intsCk .u32 64 r4]))] (GOk.plain (op_store_w Tryd.sizeOf170 q0 q1 (cells_agg _)) rfl) .nil) fun b5 a w h => ?_
    refine regS mixed hn hG h [0, 1, 2, 502, 3, 4, 5, 500] (ov [0, 3] (op_load_w 1 Tryd.isAgg150 Tryd.sizeOf150 q0) <| ob [] (op_alloc Tryd.zeroValue150 z150) <| og [501, 502] [500] [.res 1 100000 (fun v1_ _ => (lb (v1_) 150 [intsCk .u32 8 a_0]))] (GOk.plain (op_store_w Tryd.sizeOf150 q0 q1 (cells_agg _)) rfl) .nil) fun b6 a w h => ?_
    refine wp_seq ?_
    refine regS mixed hn hG h [0, 1, 2, 3, 500, 4, 5, 6, 7] (ov [] (op_move qi) .nil) fun _ a w h => ?_
    refine wp_block ?_
    obtain ⟨cr34, hl35, hF⟩ := bind_some hF
    refine wp_mono (wp_loopN (R := (List Int)) (S := Int × (List Int)) (fun s a w => SatL c [.slot 2 (lpVP (b1 0) 0), .slot 4 (lpVP (b1 1) 0), .slot 5 (lpVP (b5 2) 0), .slot 6 (lpVP (b6 1) 0), .slot 23 (intVP .i64 s.1), .res (lb (b1 0) 150 [intsCk .u32 8 a_0]), .res (lb (b1 1) 150 [intsCk .u32 8 (List.replicate 8 0)]), .res (lb (b5 2) 170 [intsCk .u32 64 r4]), .res (lb (b6 1) 150 [intsCk .u32 8 s.2])] a w) (fun res e a w => match res with | .next s => e = .exit 0 ∧ SatL c [.slot 2 (lpVP (b1 0) 0), .slot 4 (lpVP (b1 1) 0), .slot 6 (lpVP (b6 1) 0), .res (lb (b1 0) 150 [intsCk .u32 8 a_0]), .res (lb (b1 1) 150 [intsCk .u32 8 (List.replicate 8 0)]), .res (lb (b6 1) 150 [intsCk .u32 8 s.2])] a w | .ret r => e = .ret ∧ RetOk Tryd.prog Tryd.f102 c (aggVP [intsCk .u32 8 r]) (fun _ => []) a w) ?_ _ (0, a_0) _ _ _ (h.sub [0, 1, 2, 3, 4, 5, 6, 7, 8] (by rfl)) hl35) ?_
    · clear hl35 hF h
      intro s a w o h hF
      obtain ⟨x14, x15⟩ := s
      change sha_Block.b1 r4 x14 x15 = some o at hF
      unfold sha_Block.b1 at hF
      change SatL c [.slot 2 (lpVP (b1 0) 0), .slot 4 (lpVP (b1 1) 0), .slot 5 (lpVP (b5 2) 0), .slot 6 (lpVP (b6 1) 0), .slot 23 (intVP .i64 x14), .res (lb (b1 0) 150 [intsCk .u32 8 a_0]), .res (lb (b1 1) 150 [intsCk .u32 8 (List.replicate 8 0)]), .res (lb (b5 2) 170 [intsCk .u32 64 r4]), .res (lb (b6 1) 150 [intsCk .u32 8 x15])] a w at h
      refine regS mixed hn hG h [0, 1, 2, 3, 4, 500, 5, 6, 7, 8] (ov [4] (op_bin bin_lss q0 qi) .nil) fun _ a w h => ?_
      refine wp_seq ?_
      refine cnd h hF 5 [0, 1, 2, 3, 4, 6, 7, 8, 9] [0, 1, 2, 3, 4, 6, 7, 8, 9] (fun hb26 hF h => ?_) (fun hb26 hF h => ?_)
      · refine wp_skip ?_
        show Code.wp Tryd.prog _ _ a w
        refine wp_seq ?_
        refine wp_block ?_
        refine regS mixed hn hG h [0, 1, 2, 3, 500, 4, 5, 6, 7, 8] (ov [4] (op_move q0) <| ov [500] (op_assign q0) .nil) fun _ a w h => ?_
        refine regS mixed hn hG h [0, 1, 2, 3, 4, 501, 500, 5, 6, 7, 8, 9] (ov [3] (op_indexAddr_lb Tryd.underlying150 Tryd.sizeOf51 q0 qi (by decide)) <| ov [500, 9] (op_load_lbI (i := 0) [] [] 1 Tryd.isAgg51 q0 rfl rfl (by decide)) <| ov [3] (op_indexAddr_lb Tryd.underlying150 Tryd.sizeOf51 q0 qi (by decide)) <| ov [500, 9] (op_load_lbI (i := 4) [] [] 1 Tryd.isAgg51 q0 rfl rfl (by decide)) <| ov [502] (op_assign q0) <| ov [501] (op_assign q0) .nil) fun _ a w h => ?_
        obtain ⟨r27, hr27, hF⟩ := bind_some hF
        obtain ⟨r28, hr28, hF⟩ := bind_some hF
        obtain ⟨r29, hr29, hF⟩ := bind_some hF
        refine regS mixed hn hG h [0, 1, 2, 3, 4, 5, 6, 500, 7, 8, 9, 10, 11] (ov [6] (op_move q0) <| oc [500] [] Tryd.call108 (bits_RotateLeft32_ok hr27) ⟨q0, qi, trivial⟩ <| ov [6] (op_move q0) <| oc [500] [] Tryd.call108 (bits_RotateLeft32_ok hr28) ⟨q0, qi, trivial⟩ <| ov [502, 500] (op_bin bin_xor q0 q1) <| ov [6] (op_move q0) <| oc [500] [] Tryd.call108 (bits_RotateLeft32_ok hr29) ⟨q0, qi, trivial⟩ <| ov [502, 500] (op_bin bin_xor q0 q1) <| ov [500] (op_assign q0) .nil) fun _ a w h => ?_
        refine regS mixed hn hG h [0, 1, 2, 3, 4, 5, 7, 500, 8, 9, 10, 11, 12] (ov [6] (op_move q0) <| ov [3] (op_indexAddr_lb Tryd.underlying150 Tryd.sizeOf51 q0 qi (by decide)) <| ov [500, 12] (op_load_lbI (i := 5) [] [] 1 Tryd.isAgg51 q0 rfl rfl (by decide)) <| ov [502, 500] (op_bin bin_and q0 q1) <| ov [6] (op_move q0) <| ov [500] (op_un (un_xor _ _) q0) <| ov [3] (op_indexAddr_lb Tryd.underlying150 Tryd.sizeOf51 q0 qi (by decide)) <| ov [500, 12] (op_load_lbI (i := 6) [] [] 1 Tryd.isAgg51 q0 rfl rfl (by decide)) <| ov [502, 500] (op_bin bin_and q0 q1) <| ov [505, 500] (op_bin bin_xor q0 q1) <| ov [500] (op_assign q0) .nil) fun _ a w h => ?_
        obtain ⟨hv30, hF⟩ := ite_some hF
        refine regS mixed hn hG h [0, 1, 2, 3, 5, 500, 8, 9, 10, 11, 12] (ov [3] (op_indexAddr_lb Tryd.underlying150 Tryd.sizeOf51 q0 qi (by decide)) <| ov [500, 12] (op_load_lbI (i := 7) [] [] 1 Tryd.isAgg51 q0 rfl rfl (by decide)) <| ov [6] (op_move q0) <| ov [501, 500] (op_bin bin_add q0 q1) <| ov [7] (op_move q0) <| ov [501, 500] (op_bin bin_add q0 q1) <| ov [4] (op_move q0) <| ov [500] (op_indexAddr_ppI Tryd.underlying170 Tryd.sizeOf51 (opg (fun Φ h => h.2)) q0 hv30) <| ov [500] (op_load_pp1 [] Tryd.isAgg51 q0) <| ov [503, 500] (op_bin bin_add q0 q1) <| ov [4] (op_move q0) <| ov [2, 500] (op_indexAddr_lb Tryd.underlying170 Tryd.sizeOf51 q0 q1 hv30) <| ov [500, 11] (op_load_lbI (i := x14) [] [] 1 Tryd.isAgg51 q0 rfl rfl hv30) <| ov [503, 500] (op_bin bin_add q0 q1) <| ov [500] (op_assign q0) .nil) fun _ a w h => ?_
        obtain ⟨r31, hr31, hF⟩ := bind_some hF
        obtain ⟨r32, hr32, hF⟩ := bind_some hF
        obtain ⟨r33, hr33, hF⟩ := bind_some hF
        refine regS mixed hn hG h [0, 1, 2, 3, 4, 5, 500, 6, 7, 8, 9, 10] (ov [4] (op_move q0) <| oc [500] [] Tryd.call108 (bits_RotateLeft32_ok hr31) ⟨q0, qi, trivial⟩ <| ov [4] (op_move q0) <| oc [500] [] Tryd.call108 (bits_RotateLeft32_ok hr32) ⟨q0, qi, trivial⟩ <| ov [502, 500] (op_bin bin_xor q0 q1) <| ov [4] (op_move q0) <| oc [500] [] Tryd.call108 (bits_RotateLeft32_ok hr33) ⟨q0, qi, trivial⟩ <| ov [502, 500] (op_bin bin_xor q0 q1) <| ov [500] (op_assign q0) .nil) fun _ a w h => ?_
        refine regS mixed hn hG h [0, 1, 2, 3, 5, 6, 500, 7, 8, 9, 10, 11] (ov [4] (op_move q0) <| ov [3] (op_indexAddr_lb Tryd.underlying150 Tryd.sizeOf51 q0 qi (by decide)) <| ov [500, 11] (op_load_lbI (i := 1) [] [] 1 Tryd.isAgg51 q0 rfl rfl (by decide)) <| ov [502, 500] (op_bin bin_and q0 q1) <| ov [4] (op_move q0) <| ov [3] (op_indexAddr_lb Tryd.underlying150 Tryd.sizeOf51 q0 qi (by decide)) <| ov [500, 11] (op_load_lbI (i := 2) [] [] 1 Tryd.isAgg51 q0 rfl rfl (by decide)) <| ov [502, 500] (op_bin bin_and q0 q1) <| ov [504, 500] (op_bin bin_xor q0 q1) <| ov [3] (op_indexAddr_lb Tryd.underlying150 Tryd.sizeOf51 q0 qi (by decide)) <| ov [500, 11] (op_load_lbI (i := 1) [] [] 1 Tryd.isAgg51 q0 rfl rfl (by decide)) <| ov [3] (op_indexAddr_lb Tryd.underlying150 Tryd.sizeOf51 q0 qi (by decide)) <| ov [500, 11] (op_load_lbI (i := 2) [] [] 1 Tryd.isAgg51 q0 rfl rfl (by decide)) <| ov [502, 500] (op_bin bin_and q0 q1) <| ov [505, 500] (op_bin bin_xor q0 q1) <| ov [500] (op_assign q0) .nil) fun _ a w h => ?_
        refine regS mixed hn hG h [0, 1, 2, 3, 4, 5, 6, 7, 8, 9, 10, 500] (ov [3] (op_slice_lb (a := 1) (b := 8) Tryd.underlying150 Tryd.sizeOf51 q0 ⟨_, qi⟩ rfl (by decide)) <| ov [3] (op_slice_lb (a := 0) (b := 7) Tryd.underlying150 Tryd.sizeOf51 q0 rfl ⟨_, qi⟩ (by decide)) <| oe [501, 500] [11] (GOk.plain (op_copy_lb (i := (1 : Int).toNat) (j := (0 : Int).toNat) [] [] Tryd.underlying175 rfl q0 q1 (by rfl) (by rfl) (by decide) (by decide)) rfl) .nil) fun _ a w h => ?_
        refine regS mixed hn hG h [0, 1, 2, 3, 4, 5, 6, 7, 8, 9, 10, 500] (ov [3] (op_indexAddr_lb Tryd.underlying150 Tryd.sizeOf51 q0 qi (by decide)) <| ov [500, 11] (op_load_lbI (i := 4) [] [] 1 Tryd.isAgg51 q0 rfl rfl (by decide)) <| ov [4] (op_move q0) <| ov [501, 500] (op_bin bin_add q0 q1) <| ov [3] (op_indexAddr_lb Tryd.underlying150 Tryd.sizeOf51 q0 qi (by decide)) <| ou [500, 501] 11 (op_store_lbI (i := 4) [] [] Tryd.sizeOf51 q0 q1 rfl (by decide)) .nil) fun _ a w h => ?_
        refine reg mixed hn hG h [0, 1, 2, 3, 7, 8, 9, 10, 500] (ov [4] (op_move q0) <| ov [5] (op_move q0) <| ov [501, 500] (op_bin bin_add q0 q1) <| ov [6] (op_move q0) <| ov [501, 500] (op_bin bin_add q0 q1) <| ov [3] (op_indexAddr_lb Tryd.underlying150 Tryd.sizeOf51 q0 qi (by decide)) <| ou [500, 501] 11 (op_store_lbI (i := 0) [] [] Tryd.sizeOf51 q0 q1 rfl (by decide)) .nil) fun _ a w h => ?_
        show Code.wp Tryd.prog _ _ a w
        refine reg mixed hn hG h [0, 1, 2, 3, 500, 5, 6, 7, 8] (ov [4] (op_bin bin_add q0 qi) <| od [500] 4 (op_move q0) .nil) fun _ a w h => ?_
        obtain rfl := Option.some.inj hF
        exact ⟨rfl, h.sub [0, 1, 2, 3, 4, 5, 6, 7, 8] (by rfl)⟩
      · refine wp_exit ?_
        obtain rfl := Option.some.inj hF
        exact ⟨exit_ne _, rfl, h.sub [0, 1, 3, 5, 6, 8] (by rfl)⟩
    · clear hl35
      intro e a w hq
      cases cr34 with
      | ret r36 =>
        obtain ⟨rfl, hq⟩ := hq
        obtain rfl := Option.some.inj hF
        exact ⟨.inl rfl, hq⟩
      | next s37 =>
        obtain ⟨y38, y39⟩ := s37
        obtain ⟨rfl, h⟩ := hq
        change SatL c [.slot 2 (lpVP (b1 0) 0), .slot 4 (lpVP (b1 1) 0), .slot 6 (lpVP (b6 1) 0), .res (lb (b1 0) 150 [intsCk .u32 8 a_0]), .res (lb (b1 1) 150 [intsCk .u32 8 (List.replicate 8 0)]), .res (lb (b6 1) 150 [intsCk .u32 8 y39])] a w at h
        refine inBlock_at ?_
        show Code.wp Tryd.prog _ _ a w
        refine wp_seq ?_
        refine regS mixed hn hG h [0, 1, 2, 500, 3, 4, 5] (ov [] (op_move qi) .nil) fun _ a w h => ?_
        refine wp_block ?_
        obtain ⟨cr49, hl50, hF⟩ := bind_some hF
        refine wp_mono (wp_loopN (R := (List Int)) (S := Int × (List Int)) (fun s a w => SatL c [.slot 2 (lpVP (b1 0) 0), .slot 4 (lpVP (b1 1) 0), .slot 6 (lpVP (b6 1) 0), .slot 100 (intVP .i64 s.1), .res (lb (b1 0) 150 [intsCk .u32 8 a_0]), .res (lb (b1 1) 150 [intsCk .u32 8 (List.replicate 8 0)]), .res (lb (b6 1) 150 [intsCk .u32 8 s.2])] a w) (fun res e a w => match res with | .next s => e = .exit 2 ∧ SatL c [.slot 4 (lpVP (b1 1) 0), .slot 6 (lpVP (b6 1) 0), .res (lb (b1 1) 150 [intsCk .u32 8 (List.replicate 8 0)]), .res (lb (b6 1) 150 [intsCk .u32 8 s.2])] a w | .ret r => e = .ret ∧ RetOk Tryd.prog Tryd.f102 c (aggVP [intsCk .u32 8 r]) (fun _ => []) a w) ?_ _ (0, y39) _ _ _ (h.sub [0, 1, 2, 3, 4, 5, 6] (by rfl)) hl50) ?_
        · clear hl50 hF h
          intro s a w o h hF
          obtain ⟨x41, x42⟩ := s
          change sha_Block.b2 a_0 x41 x42 = some o at hF
          unfold sha_Block.b2 at hF
          change SatL c [.slot 2 (lpVP (b1 0) 0), .slot 4 (lpVP (b1 1) 0), .slot 6 (lpVP (b6 1) 0), .slot 100 (intVP .i64 x41), .res (lb (b1 0) 150 [intsCk .u32 8 a_0]), .res (lb (b1 1) 150 [intsCk .u32 8 (List.replicate 8 0)]), .res (lb (b6 1) 150 [intsCk .u32 8 x42])] a w at h
          refine regS mixed hn hG h [0, 1, 2, 3, 500, 4, 5, 6] (ov [3] (op_bin bin_lss q0 qi) .nil) fun _ a w h => ?_
          refine wp_seq ?_
          refine cnd h hF 4 [0, 1, 2, 3, 5, 6, 7] [0, 1, 2, 3, 5, 6, 7] (fun hb47 hF h => ?_) (fun hb47 hF h => ?_)
          · refine wp_skip ?_
            show Code.wp Tryd.prog _ _ a w
            refine wp_seq ?_
            refine wp_block ?_
            refine regS mixed hn hG h [0, 1, 2, 500, 3, 4, 5, 6] (ov [3] (op_move q0) <| ov [500] (op_assign q0) .nil) fun _ a w h => ?_
            obtain ⟨hv48, hF⟩ := ite_some hF
            refine reg mixed hn hG h [0, 1, 2, 4, 5, 6, 500] (ov [3] (op_move q0) <| ov [2, 500] (op_indexAddr_lb Tryd.underlying150 Tryd.sizeOf51 q0 q1 hv48) <| ov [500, 7] (op_load_lbI (i := x41) [] [] 1 Tryd.isAgg51 q0 rfl rfl hv48) <| ov [3] (op_move q0) <| ov [0, 500] (op_indexAddr_lb Tryd.underlying150 Tryd.sizeOf51 q0 q1 hv48) <| ov [500, 5] (op_load_lbI (i := x41) [] [] 1 Tryd.isAgg51 q0 rfl rfl hv48) <| ov [503, 500] (op_bin bin_add q0 q1) <| ov [2, 506] (op_indexAddr_lb Tryd.underlying150 Tryd.sizeOf51 q0 q1 hv48) <| ou [500, 501] 7 (op_store_lbI (i := x41) [] [] Tryd.sizeOf51 q0 q1 rfl hv48) .nil) fun _ a w h => ?_
            show Code.wp Tryd.prog _ _ a w
            refine reg mixed hn hG h [0, 1, 2, 500, 4, 5, 6] (ov [3] (op_bin bin_add q0 qi) <| od [500] 3 (op_move q0) .nil) fun _ a w h => ?_
            obtain rfl := Option.some.inj hF
            exact ⟨rfl, h.sub [0, 1, 2, 3, 4, 5, 6] (by rfl)⟩
          · refine wp_exit ?_
            obtain rfl := Option.some.inj hF
            exact ⟨exit_ne _, rfl, h.sub [1, 2, 5, 6] (by rfl)⟩
        · clear hl50
          intro e a w hq
          cases cr49 with
          | ret r51 =>
            obtain ⟨rfl, hq⟩ := hq
            obtain rfl := Option.some.inj hF
            exact ⟨.inl rfl, hq⟩
          | next s52 =>
            obtain ⟨y53, y54⟩ := s52
            obtain ⟨rfl, h⟩ := hq
            change SatL c [.slot 4 (lpVP (b1 1) 0), .slot 6 (lpVP (b6 1) 0), .res (lb (b1 1) 150 [intsCk .u32 8 (List.replicate 8 0)]), .res (lb (b6 1) 150 [intsCk .u32 8 y54])] a w at h
            refine inBlock_at ?_
            show Code.wp Tryd.prog _ _ a w
            refine regS mixed hn hG h [0, 500] (ov [1, 3] (op_load_w 1 Tryd.isAgg150 Tryd.sizeOf150 q0) <| ou [0, 500] 2 (op_store_w Tryd.sizeOf150 q0 q1 (cells_agg _)) .nil) fun _ a w h => ?_
            refine wp_ret ?_
            obtain rfl := Option.some.inj hF
            exact ⟨.inl rfl, ret1 h Tryd.results102 (r_cell 0 1 rfl rfl Tryd.isAgg150 Tryd.sizeOf150 rfl) [] [] rfl rfl rfl⟩

def sha_State_Add.b1 (x8 : List UInt8) (x9 : S_sha_State) : Option (Flow S_sha_State ((List UInt8) × S_sha_State)) := (if (decide ((64 : Int) ≤ (x8.length : Int))) = true then (if (0 : Int) ≤ 0 ∧ (0 : Int) ≤ 64 ∧ (64 : Int) ≤ x8.length then ((sha_Block x9.f_Words ((x8.take 64).drop (0 : Int).toNat)).bind fun r18 => (if (0 : Int) ≤ 64 ∧ (64 : Int) ≤ (x8.length : Int) ∧ (x8.length : Int) ≤ x8.length then some (.cont ((x8.take (x8.length : Int).toNat).drop 64, (S_sha_State.mk r18 x9.f_Rest x9.f_Count))) else none)) else none) else some (.brk (x8, x9)))
def sha_State_Add (a_0 : S_sha_State) (a_1 : List UInt8) : Option S_sha_State := (if a_0.f_Rest.length + a_1.length ≤ mxl then ((loopN (fun s : (List UInt8) × S_sha_State => sha_State_Add.b1 s.1 s.2) ((((a_0.f_Rest ++ a_1).length : Int) - 64 : Int).toNat + 2) (a_0.f_Rest ++ a_1, (S_sha_State.mk a_0.f_Words a_0.f_Rest (IntKind.wrap .u64 (a_0.f_Count + (IntKind.wrap .u64 (a_1.length : Int))))))).bind fun cr => match cr with | .ret r => some r | .next (y24, y25) => some (S_sha_State.mk y25.f_Words y24 y25.f_Count)) else none)
theorem sha_State_Add_ok {a_0 : S_sha_State} {a_1 : List UInt8} {r : S_sha_State} (hF : sha_State_Add a_0 a_1 = some r) : CallOk Tryd.prog KG 97 [(aggVP [intsCk .u32 8 a_0.f_Words, one (strVP a_0.f_Rest), one (intVP .u64 a_0.f_Count)]), (strVP a_1)] [] (fun _ => []) (aggVP [intsCk .u32 8 r.f_Words, one (strVP r.f_Rest), one (intVP .u64 r.f_Count)]) := by
  refine CallOk.intro 31 Tryd.func97 rfl Tryd.ntmps97 (Nat.le_of_ble_eq_true rfl) ?_
  intro c a w hG hn h
  unfold sha_State_Add at hF
  change SatL c [.slot 0 (aggVP [intsCk .u32 8 a_0.f_Words, one (strVP a_0.f_Rest), one (intVP .u64 a_0.f_Count)]), .slot 1 (strVP a_1)] a w at h
  refine regS mixed hn hG h [1, 503, 501, 502, 500] (ob [0] (op_box q0 (cells_agg _)) <| ob [] (op_alloc Tryd.zeroValue158 z158) .nil) fun b1 a w h => ?_
  refine regS mixed hn hG h [0, 1, 2, 500, 4] (ov [1] (op_fieldAddr_lbm (p := (b1 0)) (n := 1) 0 9 Tryd.underlying158 rfl Tryd.sizeOf114 (by decide) q0 rfl) <| ov [500, 3] (op_load_lb1 [intsCk .u32 8 a_0.f_Words, one (strVP a_0.f_Rest)] [] 1 Tryd.isAgg114 q0 rfl rfl) <| ov [0] (op_move q0) <| ov [500] (op_len_str Tryd.underlying9 q0) <| ov [500] (op_convert_int Tryd.underlying3 Tryd.underlying114 q0) <| ov [503, 500] (op_bin bin_add q0 q1) <| ov [1] (op_fieldAddr_lbm (p := (b1 0)) (n := 1) 0 9 Tryd.underlying158 rfl Tryd.sizeOf114 (by decide) q0 rfl) <| ou [500, 501] 3 (op_store_lb [intsCk .u32 8 a_0.f_Words, one (strVP a_0.f_Rest)] [one (intVP .u64 a_0.f_Count)] [] [one (intVP .u64 (IntKind.wrap .u64 (a_0.f_Count + (IntKind.wrap .u64 (a_1.length : Int)))))] Tryd.sizeOf114 q0 q1 (cells_one (one_int _ _)) rfl rfl rfl) .nil) fun _ a w h => ?_
  obtain ⟨hv3, hF⟩ := ite_some hF
  refine regS mixed hn hG h [1, 2, 500, 3, 4] (ov [1] (op_fieldAddr_lbm (p := (b1 0)) (n := 1) 0 8 Tryd.underlying158 rfl Tryd.sizeOf9 (by decide) q0 rfl) <| ov [500, 3] (op_load_lb1 [intsCk .u32 8 a_0.f_Words] [one (intVP .u64 (IntKind.wrap .u64 (a_0.f_Count + (IntKind.wrap .u64 (a_1.length : Int)))))] 1 Tryd.isAgg9 q0 rfl rfl) <| ov [0] (op_move q0) <| ov [501, 500] (op_bin (bin_sadd hv3) q0 q1) <| ov [500] (op_assign q0) .nil) fun _ a w h => ?_
  refine wp_seq ?_
  refine wp_block ?_
  obtain ⟨cr20, hl21, hF⟩ := bind_some hF
  refine wp_mono (wp_loopN (R := S_sha_State) (S := (List UInt8) × S_sha_State) (fun s a w => SatL c [.slot 2 (lpVP (b1 0) 0), .slot 4 (lpVP (b1 1) 0), .slot 5 (strVP s.1), .res (lb (b1 0) 158 [intsCk .u32 8 s.2.f_Words, one (strVP s.2.f_Rest), one (intVP .u64 s.2.f_Count)]), .res (lb (b1 1) 158 [intsCk .u32 8 ((S_sha_State.mk (List.replicate 8 0) [] (0 : Int)).f_Words), one (strVP ((S_sha_State.mk (List.replicate 8 0) [] (0 : Int)).f_Rest)), one (intVP .u64 ((S_sha_State.mk (List.replicate 8 0) [] (0 : Int)).f_Count))])] a w) (fun res e a w => match res with | .next s => e = .exit 0 ∧ SatL c [.slot 2 (lpVP (b1 0) 0), .slot 4 (lpVP (b1 1) 0), .slot 5 (strVP s.1), .res (lb (b1 0) 158 [intsCk .u32 8 s.2.f_Words, one (strVP s.2.f_Rest), one (intVP .u64 s.2.f_Count)]), .res (lb (b1 1) 158 [intsCk .u32 8 ((S_sha_State.mk (List.replicate 8 0) [] (0 : Int)).f_Words), one (strVP ((S_sha_State.mk (List.replicate 8 0) [] (0 : Int)).f_Rest)), one (intVP .u64 ((S_sha_State.mk (List.replicate 8 0) [] (0 : Int)).f_Count))])] a w | .ret r => e = .ret ∧ RetOk Tryd.prog Tryd.f97 c (aggVP [intsCk .u32 8 r.f_Words, one (strVP r.f_Rest), one (intVP .u64 r.f_Count)]) (fun _ => []) a w) ?_ _ (a_0.f_Rest ++ a_1, (S_sha_State.mk a_0.f_Words a_0.f_Rest (IntKind.wrap .u64 (a_0.f_Count + (IntKind.wrap .u64 (a_1.length : Int)))))) _ _ _ (h.sub [0, 1, 2, 3, 4] (by rfl)) hl21) ?_
  · clear hl21 hF h
    intro s a w o h hF
    obtain ⟨x8, x9⟩ := s
    change sha_State_Add.b1 x8 x9 = some o at hF
    unfold sha_State_Add.b1 at hF
    change SatL c [.slot 2 (lpVP (b1 0) 0), .slot 4 (lpVP (b1 1) 0), .slot 5 (strVP x8), .res (lb (b1 0) 158 [intsCk .u32 8 x9.f_Words, one (strVP x9.f_Rest), one (intVP .u64 x9.f_Count)]), .res (lb (b1 1) 158 [intsCk .u32 8 ((S_sha_State.mk (List.replicate 8 0) [] (0 : Int)).f_Words), one (strVP ((S_sha_State.mk (List.replicate 8 0) [] (0 : Int)).f_Rest)), one (intVP .u64 ((S_sha_State.mk (List.replicate 8 0) [] (0 : Int)).f_Count))])] a w at h
    refine wp_seq ?_
    refine regS mixed hn hG h [0, 1, 2, 500, 3, 4] (ov [2] (op_move q0) <| ov [500] (op_len_str Tryd.underlying9 q0) <| ov [500] (op_bin bin_geq q0 qi) .nil) fun _ a w h => ?_
    refine cnd h hF 3 [0, 1, 2, 4, 5] [0, 1, 2, 4, 5] (fun hb16 hF h => ?_) (fun hb16 hF h => ?_)
    · refine wp_skip ?_
      show Code.wp Tryd.prog _ _ a w
      refine wp_block ?_
      obtain ⟨hv17, hF⟩ := ite_some hF
      obtain ⟨r18, hr18, hF⟩ := bind_some hF
      refine regS mixed hn hG h [0, 1, 2, 500, 4] (ov [0] (op_fieldAddr_lbm (p := (b1 0)) (n := 8) 0 0 Tryd.underlying158 rfl Tryd.sizeOf150 (by decide) q0 rfl) <| ov [500, 3] (op_load_lb [] [intsCk .u32 8 x9.f_Words] [one (strVP x9.f_Rest), one (intVP .u64 x9.f_Count)] 1 Tryd.isAgg150 Tryd.sizeOf150 q0 rfl rfl rfl) <| ov [2] (op_move q0) <| ov [500] (op_slice_str (a := 0) (b := 64) Tryd.underlying9 q0 rfl ⟨_, qi⟩ hv17) <| oc [502, 500] [] Tryd.call102 (sha_Block_ok hr18) ⟨q0, q1, trivial⟩ <| ov [0] (op_fieldAddr_lbm (p := (b1 0)) (n := 8) 0 0 Tryd.underlying158 rfl Tryd.sizeOf150 (by decide) q0 rfl) <| ou [500, 501] 3 (op_store_lb [] [intsCk .u32 8 x9.f_Words] [one (strVP x9.f_Rest), one (intVP .u64 x9.f_Count)] [intsCk .u32 8 r18] Tryd.sizeOf150 q0 q1 (cells_agg _) rfl rfl rfl) .nil) fun _ a w h => ?_
      obtain ⟨hv19, hF⟩ := ite_some hF
      refine reg mixed hn hG h [0, 1, 500, 3, 4] (ov [2] (op_move q0) <| ov [500] (op_slice_str (a := 64) (b := (x8.length : Int)) Tryd.underlying9 q0 ⟨_, qi⟩ rfl hv19) <| od [500] 2 (op_assign q0) .nil) fun _ a w h => ?_
      obtain rfl := Option.some.inj hF
      exact ⟨rfl, h.sub [0, 1, 2, 3, 4] (by rfl)⟩
    · refine wp_exit ?_
      obtain rfl := Option.some.inj hF
      exact ⟨exit_ne _, rfl, h.sub [0, 1, 2, 3, 4] (by rfl)⟩
  · clear hl21
    intro e a w hq
    cases cr20 with
    | ret r22 =>
      obtain ⟨rfl, hq⟩ := hq
      obtain rfl := Option.some.inj hF
      exact ⟨.inl rfl, hq⟩
    | next s23 =>
      obtain ⟨y24, y25⟩ := s23
      obtain ⟨rfl, h⟩ := hq
      change SatL c [.slot 2 (lpVP (b1 0) 0), .slot 4 (lpVP (b1 1) 0), .slot 5 (strVP y24), .res (lb (b1 0) 158 [intsCk .u32 8 y25.f_Words, one (strVP y25.f_Rest), one (intVP .u64 y25.f_Count)]), .res (lb (b1 1) 158 [intsCk .u32 8 ((S_sha_State.mk (List.replicate 8 0) [] (0 : Int)).f_Words), one (strVP ((S_sha_State.mk (List.replicate 8 0) [] (0 : Int)).f_Rest)), one (intVP .u64 ((S_sha_State.mk (List.replicate 8 0) [] (0 : Int)).f_Count))])] a w at h
      refine inBlock_at ?_
      show Code.wp Tryd.prog _ _ a w
      refine regS mixed hn hG h [0, 1, 500, 4] (ov [2] (op_move q0) <| ov [0] (op_fieldAddr_lbm (p := (b1 0)) (n := 1) 0 8 Tryd.underlying158 rfl Tryd.sizeOf9 (by decide) q0 rfl) <| ou [500, 501] 3 (op_store_lb [intsCk .u32 8 y25.f_Words] [one (strVP y25.f_Rest)] [one (intVP .u64 y25.f_Count)] [one (strVP y24)] Tryd.sizeOf9 q0 q1 (cells_one (one_str _)) rfl rfl rfl) .nil) fun _ a w h => ?_
      refine regS mixed hn hG h [1, 500] (ov [0, 2] (op_load_w 1 Tryd.isAgg158 Tryd.sizeOf158 q0) <| ou [1, 500] 3 (op_store_w Tryd.sizeOf158 q0 q1 (cells_agg _)) .nil) fun _ a w h => ?_
      refine wp_ret ?_
      obtain rfl := Option.some.inj hF
      exact ⟨.inl rfl, ret1 h Tryd.results97 (r_cell 0 1 rfl rfl Tryd.isAgg158 Tryd.sizeOf158 rfl) [] [] rfl rfl rfl⟩

def sha_State_End.b1 (a_0 : S_sha_State) (x6 : Int) (x7 : List UInt8) : Option (Flow (List UInt8) (Int × (List UInt8))) := (if (decide (x6 < (8 : Int))) = true then (if (0 : Int) ≤ IntKind.wrap .i64 (56 - (IntKind.wrap .i64 (8 * x6))) then (if (0 : Int) ≤ x6 ∧ x6 < 8 then some (.cont (IntKind.wrap .i64 (x6 + 1), x7.set x6.toNat (u8of (IntKind.wrap .u8 (shr .u64 (IntKind.wrap .u64 (8 * a_0.f_Count)) (IntKind.wrap .i64 (56 - (IntKind.wrap .i64 (8 * x6))))))))) else none) else none) else some (.brk (x6, x7)))
def sha_State_End.b3 (r25 : S_sha_State) (x38 : Int) (x59 : Int) (x60 : List UInt8) : Option (Flow (List UInt8) (Int × (List UInt8))) := (if (decide (x59 < (4 : Int))) = true then (if (0 : Int) ≤ IntKind.wrap .i64 (24 - (IntKind.wrap .i64 (8 * x59))) then (if (0 : Int) ≤ IntKind.wrap .i64 ((IntKind.wrap .i64 (4 * x38)) + x59) ∧ IntKind.wrap .i64 ((IntKind.wrap .i64 (4 * x38)) + x59) < 32 then some (.cont (IntKind.wrap .i64 (x59 + 1), x60.set (IntKind.wrap .i64 ((IntKind.wrap .i64 (4 * x38)) + x59)).toNat (u8of (IntKind.wrap .u8 (shr .u32 (r25.f_Words.getD x38.toNat 0) (IntKind.wrap .i64 (24 - (IntKind.wrap .i64 (8 * x59))))))))) else none) else none) else some (.brk (x59, x60)))
def sha_State_End.b2 (r25 : S_sha_State) (x38 : Int) (x39 : List UInt8) : Option (Flow (List UInt8) (Int × (List UInt8))) := (if (decide (x38 < (8 : Int))) = true then (if (0 : Int) ≤ x38 ∧ x38 < 8 then ((loopN (fun s : Int × (List UInt8) => sha_State_End.b3 r25 x38 s.1 s.2) ((4 - 0 : Int).toNat + 2) (0, x39)).bind fun cr => match cr with | .ret r => some (.ret r) | .next (y73, y74) => some (.cont (IntKind.wrap .i64 (x38 + 1), y74))) else none) else some (.brk (x38, x39)))
def sha_State_End (a_0 : S_sha_State) : Option (List UInt8) := ((loopN (fun s : Int × (List UInt8) => sha_State_End.b1 a_0 s.1 s.2) ((8 - 0 : Int).toNat + 2) (0, (List.replicate 8 0))).bind fun cr => match cr with | .ret r => some r | .next (y20, y21) => (if (0 : Int) ≤ (IntKind.wrap .i64 (119 - ((a_0.f_Rest.length : Int).tmod 64))).tmod 64 ∧ [0].length * ((IntKind.wrap .i64 (119 - ((a_0.f_Rest.length : Int).tmod 64))).tmod 64 : Int).toNat ≤ 140737488355328 then (if [128].length + (Lib.repeatL [0] ((IntKind.wrap .i64 (119 - ((a_0.f_Rest.length : Int).tmod 64))).tmod 64 : Int).toNat).length ≤ mxl then (if ([128] ++ (Lib.repeatL [0] ((IntKind.wrap .i64 (119 - ((a_0.f_Rest.length : Int).tmod 64))).tmod 64 : Int).toNat)).length + (y21.take ((8 : Int).toNat - (0 : Int).toNat)).length ≤ mxl then ((sha_State_Add a_0 (([128] ++ (Lib.repeatL [0] ((IntKind.wrap .i64 (119 - ((a_0.f_Rest.length : Int).tmod 64))).tmod 64 : Int).toNat)) ++ (y21.take ((8 : Int).toNat - (0 : Int).toNat)))).bind fun r25 => ((loopN (fun s : Int × (List UInt8) => sha_State_End.b2 r25 s.1 s.2) ((8 - 0 : Int).toNat + 2) (0, (List.replicate 32 0))).bind fun cr => match cr with | .ret r => some r | .next (y79, y80) => some y80)) else none) else none) else none))
theorem sha_State_End_ok {a_0 : S_sha_State} {r : (List UInt8)} (hF : sha_State_End a_0 = some r) : CallOk Tryd.prog KG 98 [(aggVP [intsCk .u32 8 a_0.f_Words, one (strVP a_0.f_Rest), one (intVP .u64 a_0.f_Count)])] [] (fun _ => []) (aggVP [bytesCk 32 r]) := by
  refine CallOk.intro 63 Tryd.func98 rfl Tryd.ntmps98 (Nat.le_of_ble_eq_true rfl) ?_
  intro c a w hG hn h
  unfold sha_State_End at hF
  change SatL c [.slot 0 (aggVP [intsCk .u32 8 a_0.f_Words, one (strVP a_0.f_Rest), one (intVP .u64 a_0.f_Count)])] a w at h
  refine regS mixed hn hG h [503, 501, 502, 500] (ob [0] (op_box q0 (cells_agg _)) <| ob [] (op_alloc Tryd.zeroValue23 z23) .nil) fun b1 a w h => ?_
  refine regS mixed hn hG h [0, 1, 500, 2, 3] (ov [0] (op_fieldAddr_lbm (p := (b1 0)) (n := 1) 0 9 Tryd.underlying158 rfl Tryd.sizeOf114 (by decide) q0 rfl) <| ov [500, 2] (op_load_lb1 [intsCk .u32 8 a_0.f_Words, one (strVP a_0.f_Rest)] [] 1 Tryd.isAgg114 q0 rfl rfl) <| ov [500] (op_bin bin_mul qi q0) <| ov [500] (op_assign q0) .nil) fun _ a w h => ?_
  refine regS mixed hn hG h [0, 1, 2, 500, 3, 4] (ov [0] (op_fieldAddr_lbm (p := (b1 0)) (n := 1) 0 8 Tryd.underlying158 rfl Tryd.sizeOf9 (by decide) q0 rfl) <| ov [500, 3] (op_load_lb1 [intsCk .u32 8 a_0.f_Words] [one (intVP .u64 a_0.f_Count)] 1 Tryd.isAgg9 q0 rfl rfl) <| ov [500] (op_len_str Tryd.underlying9 q0) <| ov [500] (op_bin (bin_rem (by decide)) q0 qi) <| ov [500] (op_bin bin_sub qi q0) <| ov [500] (op_bin (bin_rem (by decide)) q0 qi) <| ov [500] (op_assign q0) .nil) fun _ a w h => ?_
  refine regS mixed hn hG h [0, 1, 2, 3, 501, 4, 5, 500] (ob [] (op_alloc Tryd.zeroValue135 z135) .nil) fun b3 a w h => ?_
  refine wp_seq ?_
  refine regS mixed hn hG h [0, 1, 2, 3, 4, 500, 5, 6, 7] (ov [] (op_move qi) .nil) fun _ a w h => ?_
  refine wp_block ?_
  obtain ⟨cr16, hl17, hF⟩ := bind_some hF
  refine wp_mono (wp_loopN (R := (List UInt8)) (S := Int × (List UInt8)) (fun s a w => SatL c [.slot 1 (lpVP (b1 0) 0), .slot 2 (lpVP (b1 1) 0), .slot 3 (intVP .u64 (IntKind.wrap .u64 (8 * a_0.f_Count))), .slot 4 (intVP .i64 ((IntKind.wrap .i64 (119 - ((a_0.f_Rest.length : Int).tmod 64))).tmod 64)), .slot 5 (lpVP (b3 0) 0), .slot 20 (intVP .i64 s.1), .res (lb (b1 0) 158 [intsCk .u32 8 a_0.f_Words, one (strVP a_0.f_Rest), one (intVP .u64 a_0.f_Count)]), .res (lb (b1 1) 23 [bytesCk 32 (List.replicate 32 0)]), .res (lb (b3 0) 135 [bytesCk 8 s.2])] a w) (fun res e a w => match res with | .next s => e = .exit 0 ∧ SatL c [.slot 1 (lpVP (b1 0) 0), .slot 2 (lpVP (b1 1) 0), .slot 4 (intVP .i64 ((IntKind.wrap .i64 (119 - ((a_0.f_Rest.length : Int).tmod 64))).tmod 64)), .slot 5 (lpVP (b3 0) 0), .res (lb (b1 0) 158 [intsCk .u32 8 a_0.f_Words, one (strVP a_0.f_Rest), one (intVP .u64 a_0.f_Count)]), .res (lb (b1 1) 23 [bytesCk 32 (List.replicate 32 0)]), .res (lb (b3 0) 135 [bytesCk 8 s.2])] a w | .ret r => e = .ret ∧ RetOk Tryd.prog Tryd.f98 c (aggVP [bytesCk 32 r]) (fun _ => []) a w) ?_ _ (0, (List.replicate 8 0)) _ _ _ (h.sub [0, 1, 2, 3, 4, 5, 6, 7, 8] (by rfl)) hl17) ?_
  · clear hl17 hF h
    intro s a w o h hF
    obtain ⟨x6, x7⟩ := s
    change sha_State_End.b1 a_0 x6 x7 = some o at hF
    unfold sha_State_End.b1 at hF
    change SatL c [.slot 1 (lpVP (b1 0) 0), .slot 2 (lpVP (b1 1) 0), .slot 3 (intVP .u64 (IntKind.wrap .u64 (8 * a_0.f_Count))), .slot 4 (intVP .i64 ((IntKind.wrap .i64 (119 - ((a_0.f_Rest.length : Int).tmod 64))).tmod 64)), .slot 5 (lpVP (b3 0) 0), .slot 20 (intVP .i64 x6), .res (lb (b1 0) 158 [intsCk .u32 8 a_0.f_Words, one (strVP a_0.f_Rest), one (intVP .u64 a_0.f_Count)]), .res (lb (b1 1) 23 [bytesCk 32 (List.replicate 32 0)]), .res (lb (b3 0) 135 [bytesCk 8 x7])] a w at h
    refine regS mixed hn hG h [0, 1, 2, 3, 4, 5, 500, 6, 7, 8] (ov [5] (op_bin bin_lss q0 qi) .nil) fun _ a w h => ?_
    refine wp_seq ?_
    refine cnd h hF 6 [0, 1, 2, 3, 4, 5, 7, 8, 9] [0, 1, 2, 3, 4, 5, 7, 8, 9] (fun hb13 hF h => ?_) (fun hb13 hF h => ?_)
    · refine wp_skip ?_
      show Code.wp Tryd.prog _ _ a w
      refine wp_seq ?_
      refine wp_block ?_
      refine regS mixed hn hG h [0, 1, 2, 3, 4, 500, 5, 6, 7, 8] (ov [5] (op_move q0) <| ov [500] (op_assign q0) .nil) fun _ a w h => ?_
      obtain ⟨hv14, hF⟩ := ite_some hF
      obtain ⟨hv15, hF⟩ := ite_some hF
      refine reg mixed hn hG h [0, 1, 2, 3, 4, 6, 7, 8, 500] (ov [5] (op_move q0) <| ov [2] (op_move q0) <| ov [5] (op_move q0) <| ov [500] (op_bin bin_mul qi q0) <| ov [500] (op_bin bin_sub qi q0) <| ov [503, 500] (op_bin (bin_shr hv14) q0 q1) <| ov [500] (op_convert_int Tryd.underlying114 Tryd.underlying5 q0) <| ov [4, 506] (op_indexAddr_lb Tryd.underlying135 Tryd.sizeOf5 q0 q1 hv15) <| ou [500, 501] 9 (op_store_lbB (i := x6) [] [] Tryd.sizeOf5 q0 q1 rfl hv15) .nil) fun _ a w h => ?_
      show Code.wp Tryd.prog _ _ a w
      refine reg mixed hn hG h [0, 1, 2, 3, 4, 500, 6, 7, 8] (ov [5] (op_bin bin_add q0 qi) <| od [500] 5 (op_move q0) .nil) fun _ a w h => ?_
      obtain rfl := Option.some.inj hF
      exact ⟨rfl, h.sub [0, 1, 2, 3, 4, 5, 6, 7, 8] (by rfl)⟩
    · refine wp_exit ?_
      obtain rfl := Option.some.inj hF
      exact ⟨exit_ne _, rfl, h.sub [0, 1, 3, 4, 6, 7, 8] (by rfl)⟩
  · clear hl17
    intro e a w hq
    cases cr16 with
    | ret r18 =>
      obtain ⟨rfl, hq⟩ := hq
      obtain rfl := Option.some.inj hF
      exact ⟨.inl rfl, hq⟩
    | next s19 =>
      obtain ⟨y20, y21⟩ := s19
      obtain ⟨rfl, h⟩ := hq
      change SatL c [.slot 1 (lpVP (b1 0) 0), .slot 2 (lpVP (b1 1) 0), .slot 4 (intVP .i64 ((IntKind.wrap .i64 (119 - ((a_0.f_Rest.length : Int).tmod 64))).tmod 64)), .slot 5 (lpVP (b3 0) 0), .res (lb (b1 0) 158 [intsCk .u32 8 a_0.f_Words, one (strVP a_0.f_Rest), one (intVP .u64 a_0.f_Count)]), .res (lb (b1 1) 23 [bytesCk 32 (List.replicate 32 0)]), .res (lb (b3 0) 135 [bytesCk 8 y21])] a w at h
      refine inBlock_at ?_
      show Code.wp Tryd.prog _ _ a w
      obtain ⟨hv22, hF⟩ := ite_some hF
      obtain ⟨hv23, hF⟩ := ite_some hF
      obtain ⟨hv24, hF⟩ := ite_some hF
      obtain ⟨r25, hr25, hF⟩ := bind_some hF
      refine regS mixed hn hG h [0, 1, 500, 5] (ov [0, 4] (op_load_w 1 Tryd.isAgg158 Tryd.sizeOf158 q0) <| ov [2] (op_move q0) <| oc [500] [] Tryd.call103 (repeat_ok hv22) ⟨(opc (sc _ (by decide))), q0, trivial⟩ <| ov [500] (op_bin (bin_sadd hv23) (opc (sc _ (by decide))) q0) <| ov [3] (op_slice_lb (a := 0) (b := 8) Tryd.underlying135 Tryd.sizeOf5 q0 rfl rfl (by decide)) <| ov [500, 6] (op_str_lsl [] [] 1 Tryd.underlying129 Tryd.underlying5 Tryd.underlying9 q0 rfl rfl (by decide) (by decide)) <| ov [502, 500] (op_bin (bin_sadd hv24) q0 q1) <| oc [506, 500] [] Tryd.call97 (sha_State_Add_ok hr25) ⟨q0, q1, trivial⟩ <| ou [0, 500] 4 (op_store_w Tryd.sizeOf158 q0 q1 (cells_agg _)) .nil) fun _ a w h => ?_
      refine regS mixed hn hG h [0, 1, 501, 2, 3, 500] (ob [] (op_alloc Tryd.zeroValue23 z23) .nil) fun b26 a w h => ?_
      refine wp_seq ?_
      refine regS mixed hn hG h [1, 2, 501, 500, 4, 5] (ov [0] (op_fieldAddr_lbm (p := (b1 0)) (n := 8) 0 0 Tryd.underlying158 rfl Tryd.sizeOf150 (by decide) q0 rfl) <| ov [500, 3] (op_load_lb [] [intsCk .u32 8 r25.f_Words] [one (strVP r25.f_Rest), one (intVP .u64 r25.f_Count)] 1 Tryd.isAgg150 Tryd.sizeOf150 q0 rfl rfl rfl) <| ov [] (op_move qi) .nil) fun _ a w h => ?_
      refine wp_block ?_
      obtain ⟨cr75, hl76, hF⟩ := bind_some hF
      refine wp_mono (wp_loopN (R := (List UInt8)) (S := Int × (List UInt8)) (fun s a w => SatL c [.slot 2 (lpVP (b1 1) 0), .slot 7 (lpVP (b26 0) 0), .slot 41 (aggVP [intsCk .u32 8 r25.f_Words]), .slot 42 (intVP .i64 s.1), .res (lb (b1 1) 23 [bytesCk 32 (List.replicate 32 0)]), .res (lb (b26 0) 23 [bytesCk 32 s.2])] a w) (fun res e a w => match res with | .next s => e = .exit 2 ∧ SatL c [.slot 2 (lpVP (b1 1) 0), .slot 7 (lpVP (b26 0) 0), .res (lb (b1 1) 23 [bytesCk 32 (List.replicate 32 0)]), .res (lb (b26 0) 23 [bytesCk 32 s.2])] a w | .ret r => e = .ret ∧ RetOk Tryd.prog Tryd.f98 c (aggVP [bytesCk 32 r]) (fun _ => []) a w) ?_ _ (0, (List.replicate 32 0)) _ _ _ (h.sub [0, 1, 2, 3, 4, 5] (by rfl)) hl76) ?_
      · clear hl76 hF h
        intro s a w o h hF
        obtain ⟨x38, x39⟩ := s
        change sha_State_End.b2 r25 x38 x39 = some o at hF
        unfold sha_State_End.b2 at hF
        change SatL c [.slot 2 (lpVP (b1 1) 0), .slot 7 (lpVP (b26 0) 0), .slot 41 (aggVP [intsCk .u32 8 r25.f_Words]), .slot 42 (intVP .i64 x38), .res (lb (b1 1) 23 [bytesCk 32 (List.replicate 32 0)]), .res (lb (b26 0) 23 [bytesCk 32 x39])] a w at h
        refine regS mixed hn hG h [0, 1, 2, 3, 500, 4, 5] (ov [3] (op_bin bin_lss q0 qi) .nil) fun _ a w h => ?_
        refine wp_seq ?_
        refine cnd h hF 4 [0, 1, 2, 3, 5, 6] [0, 1, 2, 3, 5, 6] (fun hb54 hF h => ?_) (fun hb54 hF h => ?_)
        · refine wp_skip ?_
          show Code.wp Tryd.prog _ _ a w
          refine wp_seq ?_
          refine wp_block ?_
          obtain ⟨hv55, hF⟩ := ite_some hF
          refine regS mixed hn hG h [0, 1, 501, 500, 2, 3, 4, 5] (ov [3] (op_move q0) <| ov [2, 3] (op_index_aggI Tryd.underlying150 Tryd.sizeOf51 Tryd.isAgg51 q0 q1 hv55) <| ov [501] (op_assign q0) <| ov [501] (op_assign q0) .nil) fun _ a w h => ?_
          refine regS mixed hn hG h [0, 1, 2, 3, 4, 5, 500, 6, 7] (ov [] (op_move qi) .nil) fun _ a w h => ?_
          refine wp_block ?_
          obtain ⟨cr69, hl70, hF⟩ := bind_some hF
          refine wp_mono (wp_loopN (R := (List UInt8)) (S := Int × (List UInt8)) (fun s a w => SatL c [.slot 2 (lpVP (b1 1) 0), .slot 7 (lpVP (b26 0) 0), .slot 8 (intVP .i64 x38), .slot 9 (intVP .u32 (r25.f_Words.getD x38.toNat 0)), .slot 41 (aggVP [intsCk .u32 8 r25.f_Words]), .slot 42 (intVP .i64 x38), .slot 46 (intVP .i64 s.1), .res (lb (b1 1) 23 [bytesCk 32 (List.replicate 32 0)]), .res (lb (b26 0) 23 [bytesCk 32 s.2])] a w) (fun res e a w => match res with | .next s => e = .exit 4 ∧ SatL c [.slot 2 (lpVP (b1 1) 0), .slot 7 (lpVP (b26 0) 0), .slot 41 (aggVP [intsCk .u32 8 r25.f_Words]), .slot 42 (intVP .i64 x38), .res (lb (b1 1) 23 [bytesCk 32 (List.replicate 32 0)]), .res (lb (b26 0) 23 [bytesCk 32 s.2])] a w | .ret r => e = .ret ∧ RetOk Tryd.prog Tryd.f98 c (aggVP [bytesCk 32 r]) (fun _ => []) a w) ?_ _ (0, x39) _ _ _ (h.sub [0, 1, 2, 3, 4, 5, 6, 7, 8] (by rfl)) hl70) ?_
          · clear hl70 hF h
            intro s a w o h hF
            obtain ⟨x59, x60⟩ := s
            change sha_State_End.b3 r25 x38 x59 x60 = some o at hF
            unfold sha_State_End.b3 at hF
            change SatL c [.slot 2 (lpVP (b1 1) 0), .slot 7 (lpVP (b26 0) 0), .slot 8 (intVP .i64 x38), .slot 9 (intVP .u32 (r25.f_Words.getD x38.toNat 0)), .slot 41 (aggVP [intsCk .u32 8 r25.f_Words]), .slot 42 (intVP .i64 x38), .slot 46 (intVP .i64 x59), .res (lb (b1 1) 23 [bytesCk 32 (List.replicate 32 0)]), .res (lb (b26 0) 23 [bytesCk 32 x60])] a w at h
            refine regS mixed hn hG h [0, 1, 2, 3, 4, 5, 6, 500, 7, 8] (ov [6] (op_bin bin_lss q0 qi) .nil) fun _ a w h => ?_
            refine wp_seq ?_
            refine cnd h hF 7 [0, 1, 2, 3, 4, 5, 6, 8, 9] [0, 1, 2, 3, 4, 5, 6, 8, 9] (fun hb66 hF h => ?_) (fun hb66 hF h => ?_)
            · refine wp_skip ?_
              show Code.wp Tryd.prog _ _ a w
              refine wp_seq ?_
              refine wp_block ?_
              refine regS mixed hn hG h [0, 1, 2, 3, 500, 4, 5, 6, 7, 8] (ov [6] (op_move q0) <| ov [500] (op_assign q0) .nil) fun _ a w h => ?_
              obtain ⟨hv67, hF⟩ := ite_some hF
              obtain ⟨hv68, hF⟩ := ite_some hF
              refine reg mixed hn hG h [0, 1, 2, 3, 5, 6, 7, 8, 500] (ov [2] (op_move q0) <| ov [500] (op_bin bin_mul qi q0) <| ov [4] (op_move q0) <| ov [501, 500] (op_bin bin_add q0 q1) <| ov [3] (op_move q0) <| ov [4] (op_move q0) <| ov [500] (op_bin bin_mul qi q0) <| ov [500] (op_bin bin_sub qi q0) <| ov [503, 500] (op_bin (bin_shr hv67) q0 q1) <| ov [500] (op_convert_int Tryd.underlying51 Tryd.underlying5 q0) <| ov [1, 506] (op_indexAddr_lb Tryd.underlying23 Tryd.sizeOf5 q0 q1 hv68) <| ou [500, 501] 9 (op_store_lbB (i := IntKind.wrap .i64 ((IntKind.wrap .i64 (4 * x38)) + x59)) [] [] Tryd.sizeOf5 q0 q1 rfl hv68) .nil) fun _ a w h => ?_
              show Code.wp Tryd.prog _ _ a w
              refine reg mixed hn hG h [0, 1, 2, 3, 4, 5, 500, 7, 8] (ov [6] (op_bin bin_add q0 qi) <| od [500] 6 (op_move q0) .nil) fun _ a w h => ?_
              obtain rfl := Option.some.inj hF
              exact ⟨rfl, h.sub [0, 1, 2, 3, 4, 5, 6, 7, 8] (by rfl)⟩
            · refine wp_exit ?_
              obtain rfl := Option.some.inj hF
              exact ⟨exit_ne _, rfl, h.sub [0, 1, 4, 5, 7, 8] (by rfl)⟩
          · clear hl70
            intro e a w hq
            cases cr69 with
            | ret r71 =>
              obtain ⟨rfl, hq⟩ := hq
              obtain rfl := Option.some.inj hF
              exact ⟨ret_ne, rfl, hq⟩
            | next s72 =>
              obtain ⟨y73, y74⟩ := s72
              obtain ⟨rfl, h⟩ := hq
              change SatL c [.slot 2 (lpVP (b1 1) 0), .slot 7 (lpVP (b26 0) 0), .slot 41 (aggVP [intsCk .u32 8 r25.f_Words]), .slot 42 (intVP .i64 x38), .res (lb (b1 1) 23 [bytesCk 32 (List.replicate 32 0)]), .res (lb (b26 0) 23 [bytesCk 32 y74])] a w at h
              refine inBlock_at ?_
              show Code.wp Tryd.prog _ _ a w
              refine reg mixed hn hG h [0, 1, 2, 500, 4, 5] (ov [3] (op_bin bin_add q0 qi) <| od [500] 3 (op_move q0) .nil) fun _ a w h => ?_
              obtain rfl := Option.some.inj hF
              exact ⟨rfl, h.sub [0, 1, 2, 3, 4, 5] (by rfl)⟩
        · refine wp_exit ?_
          obtain rfl := Option.some.inj hF
          exact ⟨exit_ne _, rfl, h.sub [0, 1, 4, 5] (by rfl)⟩
      · clear hl76
        intro e a w hq
        cases cr75 with
        | ret r77 =>
          obtain ⟨rfl, hq⟩ := hq
          obtain rfl := Option.some.inj hF
          exact ⟨.inl rfl, hq⟩
        | next s78 =>
          obtain ⟨y79, y80⟩ := s78
          obtain ⟨rfl, h⟩ := hq
          change SatL c [.slot 2 (lpVP (b1 1) 0), .slot 7 (lpVP (b26 0) 0), .res (lb (b1 1) 23 [bytesCk 32 (List.replicate 32 0)]), .res (lb (b26 0) 23 [bytesCk 32 y80])] a w at h
          refine inBlock_at ?_
          show Code.wp Tryd.prog _ _ a w
          refine regS mixed hn hG h [0, 500] (ov [1, 3] (op_load_w 1 Tryd.isAgg23 Tryd.sizeOf23 q0) <| ou [0, 500] 2 (op_store_w Tryd.sizeOf23 q0 q1 (cells_agg _)) .nil) fun _ a w h => ?_
          refine wp_ret ?_
          obtain rfl := Option.some.inj hF
          exact ⟨.inl rfl, ret1 h Tryd.results98 (r_cell 0 1 rfl rfl Tryd.isAgg23 Tryd.sizeOf23 rfl) [] [] rfl rfl rfl⟩

def sha_Sum.b1 (a_0 : List (List UInt8)) (x7 : Int) (x8 : S_sha_State) : Option (Flow (List UInt8) (Int × S_sha_State)) := (if (decide (x7 < (a_0.length : Int))) = true then (if (0 : Int) ≤ x7 ∧ x7 < a_0.length then ((sha_State_Add x8 (a_0.getD x7.toNat default)).bind fun r16 => some (.cont (IntKind.wrap .i64 (x7 + 1), r16))) else none) else some (.brk (x7, x8)))
def sha_Sum (a_0 : List (List UInt8)) : Option (List UInt8) := ((sha_Begin).bind fun r2 => ((loopN (fun s : Int × S_sha_State => sha_Sum.b1 a_0 s.1 s.2) (((a_0.length : Int) - 0 : Int).toNat + 2) (0, r2)).bind fun cr => match cr with | .ret r => some r | .next (y21, y22) => ((sha_State_End y22).bind fun r23 => some r23)))
theorem sha_Sum_ok {a_0 : List (List UInt8)} {r : (List UInt8)} (hF : sha_Sum a_0 = some r) : CallOk Tryd.prog KG 81 [(slVP strC a_0)] [] (fun _ => []) (aggVP [bytesCk 32 r]) := by
  refine CallOk.intro 19 Tryd.func81 rfl Tryd.ntmps81 (Nat.le_of_ble_eq_true rfl) ?_
  intro c a w hG hn h
  unfold sha_Sum at hF
  change SatL c [.slot 0 (slVP strC a_0)] a w at h
  refine regS mixed hn hG h [0, 501, 500] (ob [] (op_alloc Tryd.zeroValue23 z23) .nil) fun b1 a w h => ?_
  obtain ⟨r2, hr2, hF⟩ := bind_some hF
  refine regS mixed hn hG h [0, 1, 502, 2, 500] (oc [] [] Tryd.call96 (sha_Begin_ok hr2) trivial <| ob [] (op_alloc Tryd.zeroValue158 z158) <| og [501, 502] [500] [.res 1 100000 (fun v1_ _ => (lb (v1_) 158 [intsCk .u32 8 r2.f_Words, one (strVP r2.f_Rest), one (intVP .u64 r2.f_Count)]))] (GOk.plain (op_store_w Tryd.sizeOf158 q0 q1 (cells_agg _)) rfl) .nil) fun b3 a w h => ?_
  refine wp_seq ?_
  refine regS mixed hn hG h [1, 2, 502, 501, 500, 3, 4] (ov [0] (op_move q0) <| ov [500] (op_len_sl Tryd.underlying101 q0) <| ov [] (op_move qi) .nil) fun _ a w h => ?_
  refine wp_block ?_
  obtain ⟨cr17, hl18, hF⟩ := bind_some hF
  refine wp_mono (wp_loopN (R := (List UInt8)) (S := Int × S_sha_State) (fun s a w => SatL c [.slot 2 (lpVP (b1 0) 0), .slot 3 (lpVP (b3 1) 0), .slot 7 (slVP strC a_0), .slot 8 (intVP .i64 (a_0.length : Int)), .slot 9 (intVP .i64 s.1), .res (lb (b1 0) 23 [bytesCk 32 (List.replicate 32 0)]), .res (lb (b3 1) 158 [intsCk .u32 8 s.2.f_Words, one (strVP s.2.f_Rest), one (intVP .u64 s.2.f_Count)])] a w) (fun res e a w => match res with | .next s => e = .exit 0 ∧ SatL c [.slot 2 (lpVP (b1 0) 0), .slot 3 (lpVP (b3 1) 0), .res (lb (b1 0) 23 [bytesCk 32 (List.replicate 32 0)]), .res (lb (b3 1) 158 [intsCk .u32 8 s.2.f_Words, one (strVP s.2.f_Rest), one (intVP .u64 s.2.f_Count)])] a w | .ret r => e = .ret ∧ RetOk Tryd.prog Tryd.f81 c (aggVP [bytesCk 32 r]) (fun _ => []) a w) ?_ _ (0, r2) _ _ _ (h.sub [0, 1, 2, 3, 4, 5, 6] (by rfl)) hl18) ?_
  · clear hl18 hF h
    intro s a w o h hF
    obtain ⟨x7, x8⟩ := s
    change sha_Sum.b1 a_0 x7 x8 = some o at hF
    unfold sha_Sum.b1 at hF
    change SatL c [.slot 2 (lpVP (b1 0) 0), .slot 3 (lpVP (b3 1) 0), .slot 7 (slVP strC a_0), .slot 8 (intVP .i64 (a_0.length : Int)), .slot 9 (intVP .i64 x7), .res (lb (b1 0) 23 [bytesCk 32 (List.replicate 32 0)]), .res (lb (b3 1) 158 [intsCk .u32 8 x8.f_Words, one (strVP x8.f_Rest), one (intVP .u64 x8.f_Count)])] a w at h
    refine regS mixed hn hG h [0, 1, 2, 3, 4, 500, 5, 6] (ov [4, 3] (op_bin bin_lss q0 q1) .nil) fun _ a w h => ?_
    refine wp_seq ?_
    refine cnd h hF 5 [0, 1, 2, 3, 4, 6, 7] [0, 1, 2, 3, 4, 6, 7] (fun hb14 hF h => ?_) (fun hb14 hF h => ?_)
    · refine wp_skip ?_
      show Code.wp Tryd.prog _ _ a w
      refine wp_seq ?_
      refine wp_block ?_
      obtain ⟨hv15, hF⟩ := ite_some hF
      refine regS mixed hn hG h [0, 1, 500, 2, 3, 4, 5, 6] (ov [2, 4] (op_indexAddr_sl Tryd.underlying101 Tryd.sizeOf9 lens_strC q0 q1 hv15) <| ov [500] (op_load_pp1 [] Tryd.isAgg9 q0) <| ov [500] (op_assign q0) .nil) fun _ a w h => ?_
      obtain ⟨r16, hr16, hF⟩ := bind_some hF
      refine reg mixed hn hG h [0, 1, 3, 4, 5, 6, 500] (ov [1, 7] (op_load_w 1 Tryd.isAgg158 Tryd.sizeOf158 q0) <| ov [2] (op_move q0) <| oc [501, 500] [] Tryd.call97 (sha_State_Add_ok hr16) ⟨q0, q1, trivial⟩ <| ou [1, 500] 7 (op_store_w Tryd.sizeOf158 q0 q1 (cells_agg _)) .nil) fun _ a w h => ?_
      show Code.wp Tryd.prog _ _ a w
      refine reg mixed hn hG h [0, 1, 2, 3, 500, 5, 6] (ov [4] (op_bin bin_add q0 qi) <| od [500] 4 (op_move q0) .nil) fun _ a w h => ?_
      obtain rfl := Option.some.inj hF
      exact ⟨rfl, h.sub [0, 1, 2, 3, 4, 5, 6] (by rfl)⟩
    · refine wp_exit ?_
      obtain rfl := Option.some.inj hF
      exact ⟨exit_ne _, rfl, h.sub [0, 1, 5, 6] (by rfl)⟩
  · clear hl18
    intro e a w hq
    cases cr17 with
    | ret r19 =>
      obtain ⟨rfl, hq⟩ := hq
      obtain rfl := Option.some.inj hF
      exact ⟨.inl rfl, hq⟩
    | next s20 =>
      obtain ⟨y21, y22⟩ := s20
      obtain ⟨rfl, h⟩ := hq
      change SatL c [.slot 2 (lpVP (b1 0) 0), .slot 3 (lpVP (b3 1) 0), .res (lb (b1 0) 23 [bytesCk 32 (List.replicate 32 0)]), .res (lb (b3 1) 158 [intsCk .u32 8 y22.f_Words, one (strVP y22.f_Rest), one (intVP .u64 y22.f_Count)])] a w at h
      refine inBlock_at ?_
      show Code.wp Tryd.prog _ _ a w
      obtain ⟨r23, hr23, hF⟩ := bind_some hF
      refine regS mixed hn hG h [0, 500] (ov [1, 3] (op_load_w 1 Tryd.isAgg158 Tryd.sizeOf158 q0) <| oc [500] [] Tryd.call98 (sha_State_End_ok hr23) ⟨q0, trivial⟩ <| ou [0, 500] 2 (op_store_w Tryd.sizeOf23 q0 q1 (cells_agg _)) .nil) fun _ a w h => ?_
      refine wp_ret ?_
      obtain rfl := Option.some.inj hF
      exact ⟨.inl rfl, ret1 h Tryd.results81 (r_cell 0 1 rfl rfl Tryd.isAgg23 Tryd.sizeOf23 rfl) [] [] rfl rfl rfl⟩

def digest_Log_note.n (a_1 : List UInt8) (a_2 : List UInt8) : Option (Option O_Log) := some none
def digest_Log_note.j2 (x6 : List ((List UInt8) × (List UInt8))) (x7 : List ((List UInt8) × Bool)) : Option (Option O_Log) := some (some ⟨x6, x7⟩)
def digest_Log_note.j1 (s_0 : O_Log) (a_1 : List UInt8) (a_2 : List UInt8) (x5 : Bool) : Option (Option O_Log) := (if x5 = true then digest_Log_note.j2 s_0.f_inputs (upd a_2 true s_0.f_others) else digest_Log_note.j2 (upd a_1 a_2 s_0.f_inputs) s_0.f_others)
def digest_Log_note.s (s_0 : O_Log) (a_1 : List UInt8) (a_2 : List UInt8) : Option (Option O_Log) := (if ((lkp a_1 s_0.f_inputs).isSome) = true then digest_Log_note.j1 s_0 a_1 a_2 (!decide (((lkp a_1 s_0.f_inputs).getD []) = a_2)) else digest_Log_note.j1 s_0 a_1 a_2 false)
def digest_Log_note (L_0 : Option O_Log) (a_1 : List UInt8) (a_2 : List UInt8) : Option (Option O_Log) := match L_0 with | none => digest_Log_note.n a_1 a_2 | some s_0 => digest_Log_note.s s_0 a_1 a_2
theorem digest_Log_note_ok {p_0 : Value} {L_0 : Option O_Log} {a_1 : List UInt8} {a_2 : List UInt8} {r : (Option O_Log)} (hF : digest_Log_note L_0 a_1 a_2 = some r) : CallOk Tryd.prog KG 82 [(eqVP p_0), (aggVP [bytesCk 32 a_1]), (strVP a_2)] [(Log_e p_0 L_0)] (fun _ => [Log_e p_0 r]) (tupVP []) := by
  refine CallOk.intro 36 Tryd.func82 rfl Tryd.ntmps82 (Nat.le_of_ble_eq_true rfl) ?_
  intro c a w hG hn h
  unfold digest_Log_note at hF
  change SatL c [.slot 0 (eqVP p_0), .slot 1 (aggVP [bytesCk 32 a_1]), .slot 2 (strVP a_2), .res (Log_e p_0 L_0)] a w at h
  obtain ⟨h_0_0, h⟩ := h.ex 3 rfl
  obtain ⟨h_0_1, h⟩ := h.ex 3 rfl
  change SatL c [.slot 0 (eqVP p_0), .slot 1 (aggVP [bytesCk 32 a_1]), .slot 2 (strVP a_2), .res (Log_o p_0 h_0_0 h_0_1 L_0)] a w at h
  cases L_0 with
  | none =>
    change digest_Log_note.n a_1 a_2 = some r at hF
    unfold digest_Log_note.n at hF
    obtain rfl := h.isp 3 rfl (fun _ _ _ q => q.2)
    replace h := h.slotc 0 rfl (V' := ptrVP (.pointer none) false) (fun _ _ h => ⟨h, rfl⟩)
    change SatL c [.slot 0 (ptrVP (.pointer none) false), .slot 1 (aggVP [bytesCk 32 a_1]), .slot 2 (strVP a_2), .res (Log_o (.pointer none) h_0_0 h_0_1 none)] a w at h
    refine regS mixed hn hG h [0, 2, 501, 3, 500] (ob [1] (op_box q0 (cells_agg _)) .nil) fun b1 a w h => ?_
    refine wp_seq ?_
    refine regS mixed hn hG h [0, 1, 2, 500, 3, 4] (ov [0] (op_move q0) <| ov [500] (op_bin (bin_pnil Tryd.underlying48) q0 (opc (ec _))) .nil) fun _ a w h => ?_
    refine cond_L h 3 rfl (fun hb2 => ?_) (fun hb2 => ?_)
    · skip
      replace h := h.sel [4]
      refine wp_ret ?_
      replace h := h.conv 0 rfl Log_packo
      change SatL c [.res (Log_e (.pointer none) none)] a w at h
      obtain rfl := Option.some.inj hF
      exact ⟨.inl rfl, retn h (rs := []) (Vs := []) Tryd.results82 (by decide) trivial [0] [(Log_e (.pointer none) none)] rfl rfl rfl⟩
    · cases hb2
  | some s_0 =>
    change digest_Log_note.s s_0 a_1 a_2 = some r at hF
    unfold digest_Log_note.s at hF
    have hp := h.isp 3 rfl (fun Φ f w q => Log_lp Φ f w q)
    replace h := h.slotc 0 rfl (V' := lpVP p_0 0) (fun _ _ h => eq_lp h hp)
    replace h := h.sep (R := lb p_0 111 [one (eqVP h_0_0), one (eqVP h_0_1)]) (S := (RP.sep (mapR h_0_0 arrK (fun l => l.length = 32) (fun u y => RP.val (strVP y) u) s_0.f_inputs) (mapR h_0_1 strK (fun _ => True) (fun u y => RP.val (boolVP y) u) s_0.f_others))) 3 rfl
    replace h := h.sep (R := mapR h_0_0 arrK (fun l => l.length = 32) (fun u y => RP.val (strVP y) u) s_0.f_inputs) (S := (mapR h_0_1 strK (fun _ => True) (fun u y => RP.val (boolVP y) u) s_0.f_others)) 4 rfl
    replace h := h.sub [0, 1, 2, 3, 4, 5] (by rfl)
    change SatL c [.slot 0 (lpVP p_0 0), .slot 1 (aggVP [bytesCk 32 a_1]), .slot 2 (strVP a_2), .res (lb p_0 111 [one (eqVP h_0_0), one (eqVP h_0_1)]), .res (mapR h_0_0 arrK (fun l => l.length = 32) (fun u y => RP.val (strVP y) u) s_0.f_inputs), .res (mapR h_0_1 strK (fun _ => True) (fun u y => RP.val (boolVP y) u) s_0.f_others)] a w at h
    refine regS mixed hn hG h [0, 2, 501, 3, 4, 5, 500] (ob [1] (op_box q0 (cells_agg _)) .nil) fun b3 a w h => ?_
    refine wp_seq ?_
    refine regS mixed hn hG h [0, 1, 2, 500, 3, 4, 5, 6] (ov [0] (op_move q0) <| ov [500] (op_bin (bin_pnil Tryd.underlying48) (lp_ptr q0) (opc (ec _))) .nil) fun _ a w h => ?_
    refine cond_L h 3 rfl (fun hb4 => ?_) (fun hb4 => ?_)
    · cases hb4
    · skip
      replace h := h.sel [0, 1, 2, 4, 5, 6, 7]
      refine wp_skip ?_
      show Code.wp Tryd.prog _ _ a w
      refine regS mixed hn hG h [0, 1, 2, 501, 500, 3, 4, 5, 6] (ov [0] (op_move q0) <| ov [500] (op_nilCheck q0 (ptr_lp _ _)) <| ov [500] (op_fieldAddr_lbm (p := p_0) (n := 1) 0 0 Tryd.underlying111 rfl Tryd.sizeOf108 (by decide) q0 rfl) <| ov [500, 3] (op_load_lb1 [] [one (eqVP h_0_1)] 1 Tryd.isAgg108 q0 rfl rfl) <| ov [2, 6] (op_load_w 1 Tryd.isAgg23 Tryd.sizeOf23 q0) <| ov [501, 500, 4] (op_lookup strVP [] 2 Tryd.underlying108 (keyArr Tryd.underlying23 Tryd.underlying5 Tryd.type5 Tryd.sizeOf5 Tryd.isAgg5) Tryd.zeroValue9 q0 q1 hk_arr rfl res_id (fun _ _ _ _ _ h => h.2) (fun _ => ⟨rfl, by decide⟩)) <| ov [500] (op_move q0) <| ov [500] (op_extract q0 rfl) <| ov [501] (op_extract q0 rfl) <| ov [501] (op_assign q0) <| ov [501] (op_assign q0) .nil) fun _ a w h => ?_
      refine wp_seq ?_
      refine wp_cut (fun a w => ∃ (x5 : Bool), digest_Log_note.j1 s_0 a_1 a_2 x5 = some r ∧ SatL c [.slot 0 (lpVP p_0 0), .slot 2 (strVP a_2), .slot 4 (lpVP (b3 0) 0), .slot 24 (boolVP x5), .res (lb p_0 111 [one (eqVP h_0_0), one (eqVP h_0_1)]), .res (mapR h_0_0 arrK (fun l => l.length = 32) (fun u y => RP.val (strVP y) u) s_0.f_inputs), .res (mapR h_0_1 strK (fun _ => True) (fun u y => RP.val (boolVP y) u) s_0.f_others), .res (lb (b3 0) 23 [bytesCk 32 a_1])] a w) ?_ ?_
      · rcases Bool.eq_false_or_eq_true ((lkp a_1 s_0.f_inputs).isSome) with hb9 | hb9
        · replace hF := tt_of hb9 hF
          refine reg mixed hn hG h [0, 1, 2, 500, 5, 6, 7, 8] (ov [4] (op_move q0) <| ov [500] (op_move q0) <| oe [500, 3] [] (GOk.on_eq hb9 rfl rfl rfl (op_move q0)) <| oe [501, 1] [] (GOk.on_eq hb9 rfl rfl rfl (op_move q0)) <| oe [502, 501, 500] [] (GOk.on_eq hb9 rfl rfl rfl (op_bin bin_sneq q0 q1)) <| ov [503, 500] (op_pick_t hb9 q0 q1) .nil) fun _ a w h => ?_
          exact ⟨!decide (((lkp a_1 s_0.f_inputs).getD []) = a_2), hF, h.sub [0, 1, 2, 3, 4, 5, 6, 7] (by rfl)⟩
        · replace hF := ff_of hb9 hF
          refine reg mixed hn hG h [0, 1, 2, 500, 5, 6, 7, 8] (ov [4] (op_move q0) <| ov [500] (op_move q0) <| oe [500] [] (GOk.off_v (want := true) hb9 rfl rfl rfl rfl) <| oe [501] [] (GOk.off_v (want := true) hb9 rfl rfl rfl rfl) <| oe [502] [] (GOk.off_v (want := true) hb9 rfl rfl rfl rfl) <| ov [503] (op_pick_f hb9 q0 qb) .nil) fun _ a w h => ?_
          exact ⟨false, hF, h.sub [0, 1, 2, 3, 4, 5, 6, 7] (by rfl)⟩
      · clear h hF
        rintro a w ⟨x5, hF, h⟩
        unfold digest_Log_note.j1 at hF
        show Code.wp Tryd.prog _ _ a w
        refine wp_cut (fun a w => ∃ (x6 : List ((List UInt8) × (List UInt8))), ∃ (x7 : List ((List UInt8) × Bool)), digest_Log_note.j2 x6 x7 = some r ∧ SatL c [.res (lb p_0 111 [one (eqVP h_0_0), one (eqVP h_0_1)]), .res (mapR h_0_0 arrK (fun l => l.length = 32) (fun u y => RP.val (strVP y) u) x6), .res (mapR h_0_1 strK (fun _ => True) (fun u y => RP.val (boolVP y) u) x7)] a w) ?_ ?_
        · refine cnd h hF 3 [0, 1, 4, 5, 6] [0, 1, 2, 4, 5, 6, 7] (fun hb8 hF h => ?_) (fun hb8 hF h => ?_)
          · refine reg mixed hn hG h [2, 3, 500] (ov [0] (op_move q0) <| ov [500] (op_nilCheck q0 (ptr_lp _ _)) <| ov [500] (op_fieldAddr_lbm (p := p_0) (n := 1) 0 1 Tryd.underlying111 rfl Tryd.sizeOf109 (by decide) q0 rfl) <| ov [500, 2] (op_load_lb1 [one (eqVP h_0_0)] [] 1 Tryd.isAgg109 q0 rfl rfl) <| ov [1] (op_move q0) <| ou [501, 500] 4 (op_mapUpdate Tryd.underlying109 (keyStr Tryd.underlying9) q0 q1 hk_str qb) .nil) fun _ a w h => ?_
            exact ⟨s_0.f_inputs, upd a_2 true s_0.f_others, hF, h.sub [0, 1, 2] (by rfl)⟩
          · refine reg mixed hn hG h [3, 500, 5] (ov [0] (op_move q0) <| ov [500] (op_nilCheck q0 (ptr_lp _ _)) <| ov [500] (op_fieldAddr_lbm (p := p_0) (n := 1) 0 0 Tryd.underlying111 rfl Tryd.sizeOf108 (by decide) q0 rfl) <| ov [500, 3] (op_load_lb1 [] [one (eqVP h_0_1)] 1 Tryd.isAgg108 q0 rfl rfl) <| ov [2, 6] (op_load_w 1 Tryd.isAgg23 Tryd.sizeOf23 q0) <| ov [1] (op_move q0) <| ou [502, 501, 500] 4 (op_mapUpdate Tryd.underlying108 (keyArr Tryd.underlying23 Tryd.underlying5 Tryd.type5 Tryd.sizeOf5 Tryd.isAgg5) q0 q1 hk_arr q2) .nil) fun _ a w h => ?_
            exact ⟨upd a_1 a_2 s_0.f_inputs, s_0.f_others, hF, h.sub [0, 1, 2] (by rfl)⟩
        · clear h hF
          rintro a w ⟨x6, x7, hF, h⟩
          unfold digest_Log_note.j2 at hF
          replace h := h.unsep 1 2 rfl rfl (by decide)
          replace h := h.unsep 0 1 rfl rfl (by decide)
          replace h := h.conv 0 rfl (R' := Log_e p_0 (some ⟨x6, x7⟩)) (Log_packo (v0 := h_0_0) (v1 := h_0_1) (o := (some ⟨x6, x7⟩)))
          replace h := h.sub [0] (by rfl)
          change SatL c [.res (Log_e p_0 (some ⟨x6, x7⟩))] a w at h
          obtain rfl := Option.some.inj hF
          exact ⟨.inr rfl, retn h (rs := []) (Vs := []) Tryd.results82 (by decide) trivial [0] [(Log_e p_0 (some ⟨x6, x7⟩))] rfl rfl rfl⟩

def digest_Log_Of (L_0 : Option O_Log) (a_1 : Int) (a_2 : List (List UInt8)) : Option ((List UInt8) × (Option O_Log)) := ((digest_input a_1 a_2).bind fun r2 => ((sha_Sum [r2]).bind fun r3 => ((digest_Log_note L_0 r3 r2).bind fun r5 => some (r3, r5))))
theorem digest_Log_Of_ok {p_0 : Value} {L_0 : Option O_Log} {a_1 : Int} {a_2 : List (List UInt8)} {r : (List UInt8) × (Option O_Log)} (hF : digest_Log_Of L_0 a_1 a_2 = some r) : CallOk Tryd.prog KG 62 [(eqVP p_0), (intVP .u8 a_1), (slVP strC a_2)] [(Log_e p_0 L_0)] (fun _ => [Log_e p_0 r.2]) (aggVP [bytesCk 32 r.1]) := by
  refine CallOk.intro 20 Tryd.func62 rfl Tryd.ntmps62 (Nat.le_of_ble_eq_true rfl) ?_
  intro c a w hG hn h
  unfold digest_Log_Of at hF
  change SatL c [.slot 0 (eqVP p_0), .slot 1 (intVP .u8 a_1), .slot 2 (slVP strC a_2), .res (Log_e p_0 L_0)] a w at h
  refine regS mixed hn hG h [0, 1, 2, 501, 3, 500] (ob [] (op_alloc Tryd.zeroValue23 z23) .nil) fun b1 a w h => ?_
  obtain ⟨r2, hr2, hF⟩ := bind_some hF
  refine regS mixed hn hG h [0, 3, 500, 4, 5] (ov [1] (op_move q0) <| ov [2] (op_move q0) <| oc [501, 500] [] Tryd.call80 (digest_input_ok hr2) ⟨q0, q1, trivial⟩ <| ov [500] (op_assign q0) .nil) fun _ a w h => ?_
  obtain ⟨r3, hr3, hF⟩ := bind_some hF
  refine regS mixed hn hG h [0, 1, 2, 502, 3, 4, 500] (ov [2] (op_move q0) <| ov [500] (op_lit (xs := [.tmp 12]) (ys := [r2]) _ rfl Tryd.underlying101 Tryd.sizeOf9 Tryd.zeroValue9 rfl rfl (by decide) (by decide) ⟨⟨_, q0, (cells_one (one_str _))⟩, trivial⟩ lens_strC) <| oc [500] [] Tryd.call81 (sha_Sum_ok hr3) ⟨q0, trivial⟩ <| ob [] (op_alloc Tryd.zeroValue23 z23) <| og [501, 502] [500] [.res 3 100000 (fun v1_ _ => (lb (v1_) 23 [bytesCk 32 r3]))] (GOk.plain (op_store_w Tryd.sizeOf23 q0 q1 (cells_agg _)) rfl) .nil) fun b4 a w h => ?_
  obtain ⟨r5, hr5, hF⟩ := bind_some hF
  refine regS mixed hn hG h [1, 3, 5, 6, 500] (ov [0] (op_move q0) <| ov [3, 6] (op_load_w 1 Tryd.isAgg23 Tryd.sizeOf23 q0) <| ov [2] (op_move q0) <| oc [502, 501, 500] [4] Tryd.call82 (digest_Log_note_ok hr5) ⟨q0, q1, q2, trivial⟩ .nil) fun _ a w h => ?_
  refine regS mixed hn hG h [0, 500, 4] (ov [1, 3] (op_load_w 1 Tryd.isAgg23 Tryd.sizeOf23 q0) <| ou [0, 500] 2 (op_store_w Tryd.sizeOf23 q0 q1 (cells_agg _)) .nil) fun _ a w h => ?_
  refine wp_ret ?_
  obtain rfl := Option.some.inj hF
  exact ⟨.inl rfl, ret1 h Tryd.results62 (r_cell 0 1 rfl rfl Tryd.isAgg23 Tryd.sizeOf23 rfl) [2] [(Log_e p_0 r5)] rfl rfl rfl⟩

def wire_Digest (a_0 : List UInt8) : Option (List UInt8) := some (a_0.take ((32 : Int).toNat - (0 : Int).toNat))
theorem wire_Digest_ok {a_0 : List UInt8} {r : (List UInt8)} (hF : wire_Digest a_0 = some r) : CallOk Tryd.prog KG 64 [(aggVP [bytesCk 32 a_0])] [] (fun _ => []) (strVP r) := by
  refine CallOk.intro 5 Tryd.func64 rfl Tryd.ntmps64 (Nat.le_of_ble_eq_true rfl) ?_
  intro c a w hG hn h
  unfold wire_Digest at hF
  change SatL c [.slot 0 (aggVP [bytesCk 32 a_0])] a w at h
  refine regS mixed hn hG h [502, 501] (ob [0] (op_box q0 (cells_agg _)) <| ov [] (op_assign (opc (sc _ (by decide)))) .nil) fun b1 a w h => ?_
  refine regS mixed hn hG h [500] (ov [0] (op_slice_lb (a := 0) (b := 32) Tryd.underlying23 Tryd.sizeOf5 q0 rfl rfl (by decide)) <| ov [500, 1] (op_str_lsl [] [] 1 Tryd.underlying129 Tryd.underlying5 Tryd.underlying9 q0 rfl rfl (by decide) (by decide)) <| ov [500] (op_assign q0) .nil) fun _ a w h => ?_
  refine wp_ret ?_
  obtain rfl := Option.some.inj hF
  exact ⟨.inl rfl, ret1 h Tryd.results64 (r_tmp 0 rfl) [] [] rfl rfl rfl⟩

def lamport_Public (L_0 : Option O_Log) (a_1 : List UInt8) : Option ((List UInt8) × (Option O_Log)) := ((wire_Digest a_1).bind fun r3 => ((digest_Log_Of L_0 2 [r3]).bind fun r4 => some (r4.1, r4.2)))
theorem lamport_Public_ok {p_0 : Value} {L_0 : Option O_Log} {a_1 : List UInt8} {r : (List UInt8) × (Option O_Log)} (hF : lamport_Public L_0 a_1 = some r) : CallOk Tryd.prog KG 68 [(eqVP p_0), (aggVP [bytesCk 32 a_1])] [(Log_e p_0 L_0)] (fun _ => [Log_e p_0 r.2]) (aggVP [bytesCk 32 r.1]) := by
  refine CallOk.intro 10 Tryd.func68 rfl Tryd.ntmps68 (Nat.le_of_ble_eq_true rfl) ?_
  intro c a w hG hn h
  unfold lamport_Public at hF
  change SatL c [.slot 0 (eqVP p_0), .slot 1 (aggVP [bytesCk 32 a_1]), .res (Log_e p_0 L_0)] a w at h
  refine regS mixed hn hG h [0, 503, 501, 2, 502, 500] (ob [1] (op_box q0 (cells_agg _)) <| ob [] (op_alloc Tryd.zeroValue23 z23) .nil) fun b1 a w h => ?_
  obtain ⟨r3, hr3, hF⟩ := bind_some hF
  obtain ⟨r4, hr4, hF⟩ := bind_some hF
  refine regS mixed hn hG h [2, 500, 501] (ov [0] (op_move q0) <| ov [1, 4] (op_load_w 1 Tryd.isAgg23 Tryd.sizeOf23 q0) <| oc [500] [] Tryd.call64 (wire_Digest_ok hr3) ⟨q0, trivial⟩ <| ov [500] (op_lit (xs := [.tmp 7]) (ys := [r3]) _ rfl Tryd.underlying101 Tryd.sizeOf9 Tryd.zeroValue9 rfl rfl (by decide) (by decide) ⟨⟨_, q0, (cells_one (one_str _))⟩, trivial⟩ lens_strC) <| oc [503, 500] [3] Tryd.call62 (digest_Log_Of_ok hr4) ⟨q0, qi, q1, trivial⟩ <| ou [2, 501] 5 (op_store_w Tryd.sizeOf23 q0 q1 (cells_agg _)) .nil) fun _ a w h => ?_
  refine wp_ret ?_
  obtain rfl := Option.some.inj hF
  exact ⟨.inl rfl, ret1 h Tryd.results68 (r_cell 0 1 rfl rfl Tryd.isAgg23 Tryd.sizeOf23 rfl) [2] [(Log_e p_0 r4.2)] rfl rfl rfl⟩

def wire_Byte (a_0 : Int) : Option (List UInt8) := ((wire_big (IntKind.wrap .u64 a_0) 1).bind fun r1 => some r1)
theorem wire_Byte_ok {a_0 : Int} {r : (List UInt8)} (hF : wire_Byte a_0 = some r) : CallOk Tryd.prog KG 86 [(intVP .u8 a_0)] [] (fun _ => []) (strVP r) := by
  refine CallOk.intro 6 Tryd.func86 rfl Tryd.ntmps86 (Nat.le_of_ble_eq_true rfl) ?_
  intro c a w hG hn h
  unfold wire_Byte at hF
  change SatL c [.slot 0 (intVP .u8 a_0)] a w at h
  refine regS mixed hn hG h [0] (ov [] (op_assign (opc (sc _ (by decide)))) .nil) fun _ a w h => ?_
  obtain ⟨r1, hr1, hF⟩ := bind_some hF
  refine regS mixed hn hG h [500] (ov [0] (op_move q0) <| ov [500] (op_convert_int Tryd.underlying5 Tryd.underlying114 q0) <| oc [500] [] Tryd.call83 (wire_big_ok hr1) ⟨q0, qi, trivial⟩ <| ov [500] (op_assign q0) .nil) fun _ a w h => ?_
  refine wp_ret ?_
  obtain rfl := Option.some.inj hF
  exact ⟨.inl rfl, ret1 h Tryd.results86 (r_tmp 0 rfl) [] [] rfl rfl rfl⟩

def lamport_Secret (L_0 : Option O_Log) (a_1 : List UInt8) (a_2 : Int) (a_3 : Int) (a_4 : Int) : Option ((List UInt8) × (Option O_Log)) := ((wire_Digest a_1).bind fun r3 => ((wire_Word (IntKind.wrap .u32 a_2)).bind fun r4 => ((wire_Byte (IntKind.wrap .u8 a_3)).bind fun r5 => ((wire_Byte (IntKind.wrap .u8 a_4)).bind fun r6 => ((digest_Log_Of L_0 1 [r3, r4, r5, r6]).bind fun r7 => some (r7.1, r7.2))))))
theorem lamport_Secret_ok {p_0 : Value} {L_0 : Option O_Log} {a_1 : List UInt8} {a_2 : Int} {a_3 : Int} {a_4 : Int} {r : (List UInt8) × (Option O_Log)} (hF : lamport_Secret L_0 a_1 a_2 a_3 a_4 = some r) : CallOk Tryd.prog KG 69 [(eqVP p_0), (aggVP [bytesCk 32 a_1]), (intVP .i64 a_2), (intVP .i64 a_3), (intVP .i64 a_4)] [(Log_e p_0 L_0)] (fun _ => [Log_e p_0 r.2]) (aggVP [bytesCk 32 r.1]) := by
  refine CallOk.intro 25 Tryd.func69 rfl Tryd.ntmps69 (Nat.le_of_ble_eq_true rfl) ?_
  intro c a w hG hn h
  unfold lamport_Secret at hF
  change SatL c [.slot 0 (eqVP p_0), .slot 1 (aggVP [bytesCk 32 a_1]), .slot 2 (intVP .i64 a_2), .slot 3 (intVP .i64 a_3), .slot 4 (intVP .i64 a_4), .res (Log_e p_0 L_0)] a w at h
  refine regS mixed hn hG h [0, 2, 3, 4, 503, 501, 5, 502, 500] (ob [1] (op_box q0 (cells_agg _)) <| ob [] (op_alloc Tryd.zeroValue23 z23) .nil) fun b1 a w h => ?_
  obtain ⟨r3, hr3, hF⟩ := bind_some hF
  obtain ⟨r4, hr4, hF⟩ := bind_some hF
  obtain ⟨r5, hr5, hF⟩ := bind_some hF
  obtain ⟨r6, hr6, hF⟩ := bind_some hF
  obtain ⟨r7, hr7, hF⟩ := bind_some hF
  refine regS mixed hn hG h [5, 500, 501] (ov [0] (op_move q0) <| ov [4, 7] (op_load_w 1 Tryd.isAgg23 Tryd.sizeOf23 q0) <| oc [500] [] Tryd.call64 (wire_Digest_ok hr3) ⟨q0, trivial⟩ <| ov [1] (op_move q0) <| ov [500] (op_convert_int Tryd.underlying3 Tryd.underlying51 q0) <| oc [500] [] Tryd.call63 (wire_Word_ok hr4) ⟨q0, trivial⟩ <| ov [2] (op_move q0) <| ov [500] (op_convert_int Tryd.underlying3 Tryd.underlying5 q0) <| oc [500] [] Tryd.call86 (wire_Byte_ok hr5) ⟨q0, trivial⟩ <| ov [3] (op_move q0) <| ov [500] (op_convert_int Tryd.underlying3 Tryd.underlying5 q0) <| oc [500] [] Tryd.call86 (wire_Byte_ok hr6) ⟨q0, trivial⟩ <| ov [509, 506, 503, 500] (op_lit (xs := [.tmp 13, .tmp 16, .tmp 19, .tmp 22]) (ys := [r3, r4, r5, r6]) _ rfl Tryd.underlying101 Tryd.sizeOf9 Tryd.zeroValue9 rfl rfl (by decide) (by decide) ⟨⟨_, q0, (cells_one (one_str _))⟩, ⟨_, q1, (cells_one (one_str _))⟩, ⟨_, q2, (cells_one (one_str _))⟩, ⟨_, q3, (cells_one (one_str _))⟩, trivial⟩ lens_strC) <| oc [512, 500] [6] Tryd.call62 (digest_Log_Of_ok hr7) ⟨q0, qi, q1, trivial⟩ <| ou [5, 501] 8 (op_store_w Tryd.sizeOf23 q0 q1 (cells_agg _)) .nil) fun _ a w h => ?_
  refine wp_ret ?_
  obtain rfl := Option.some.inj hF
  exact ⟨.inl rfl, ret1 h Tryd.results69 (r_cell 0 1 rfl rfl Tryd.isAgg23 Tryd.sizeOf23 rfl) [2] [(Log_e p_0 r7.2)] rfl rfl rfl⟩

def strings_Builder_Write (L_0 : O_Bld) (a_1 : List (UInt8)) : Option (Int × Value × O_Bld) := (if L_0.f_buf.length + a_1.length ≤ mxl ∧ (L_0.f_buf.length + a_1.length) * 1 ≤ 140737488355328 then some ((a_1.length : Int), Value.nilIface, ⟨L_0.f_buf ++ a_1⟩) else none)
theorem strings_Builder_Write_ok {p_0 : Value} {L_0 : O_Bld} {a_1 : List (UInt8)} {r : Int × Value × O_Bld} (hF : strings_Builder_Write L_0 a_1 = some r) : CallOk Tryd.prog KG 87 [(eqVP p_0), (slVP bC a_1)] [(Bld_e p_0 (some L_0))] (fun _ => [Bld_e p_0 (some r.2.2)]) (tupVP [(intVP .i64 r.1), (eqVP r.2.1)]) := by
  refine CallOk.intro 19 Tryd.func87 rfl Tryd.ntmps87 (Nat.le_of_ble_eq_true rfl) ?_
  intro c a w hG hn h
  unfold strings_Builder_Write at hF
  change SatL c [.slot 0 (eqVP p_0), .slot 1 (slVP bC a_1), .res (Bld_e p_0 (some L_0))] a w at h
  obtain ⟨h_0_1, h⟩ := h.ex 2 rfl
  change SatL c [.slot 0 (eqVP p_0), .slot 1 (slVP bC a_1), .res (Bld_o p_0 h_0_1 (some L_0))] a w at h
  have hp := h.isp 2 rfl (fun Φ f w q => Bld_lp Φ f w q)
  replace h := h.slotc 0 rfl (V' := lpVP p_0 0) (fun _ _ h => eq_lp h hp)
  replace h := h.sep (R := lb p_0 143 [one (selfVP p_0), one (eqVP h_0_1)]) (S := (acc h_0_1 5 1 bC L_0.f_buf)) 2 rfl
  replace h := h.sub [0, 1, 2, 3] (by rfl)
  change SatL c [.slot 0 (lpVP p_0 0), .slot 1 (slVP bC a_1), .res (lb p_0 143 [one (selfVP p_0), one (eqVP h_0_1)]), .res (acc h_0_1 5 1 bC L_0.f_buf)] a w at h
  refine regS mixed hn hG h [0, 1, 2, 3] (ov [] (op_assign qi) <| ov [] (op_assign (opc (ec _))) .nil) fun _ a w h => ?_
  refine regS mixed hn hG h [0, 1, 3, 500] (ov [0] (op_move q0) <| oc [500] [2] Tryd.call100 copyCheck_ok ⟨(lp_eqo 0 rfl), trivial⟩ .nil) fun _ a w h => ?_
  obtain ⟨hv1, hF⟩ := ite_some hF
  refine regS mixed hn hG h [1, 500, 503] (ov [0] (op_move q0) <| ov [0] (op_move q0) <| ov [500] (op_nilCheck q0 (ptr_lp _ _)) <| ov [500] (op_fieldAddr_lbm (p := p_0) (n := 1) 0 1 Tryd.underlying143 rfl Tryd.sizeOf129 (by decide) q0 rfl) <| ov [500, 3] (op_load_lb1 [one (selfVP p_0)] [] 1 Tryd.isAgg129 q0 rfl rfl) <| ov [1] (op_move q0) <| og [501, 500] [2] [.slot 14 6 100000 (fun v1_ _ => (eqVP v1_)), .res 6 100000 (fun v1_ _ => (acc (v1_) 5 1 bC (L_0.f_buf ++ a_1)))] (GOk.plain (op_append (i := Tryd.t5) Tryd.underlying129 Tryd.type5 rfl lens_bC (by decide) rfl q0 q1 hv1) rfl) <| ov [507] (op_nilCheck q0 (ptr_lp _ _)) <| ov [500] (op_fieldAddr_lbm (p := p_0) (n := 1) 0 1 Tryd.underlying143 rfl Tryd.sizeOf129 (by decide) q0 rfl) <| og [500, 503, 502] [3] [.res 6 100000 (fun v1_ _ => (lb p_0 143 [one (selfVP p_0), one (eqVP (v1_))]))] (fun {β} => (GOk.plain (op_store_lb [one (selfVP p_0)] [one (eqVP h_0_1)] [] [one (eqVP ((β 6)))] Tryd.sizeOf129 q0 (opone 1 2 rfl rfl acc_one) (cells_h _) rfl rfl rfl) rfl)) .nil) fun b2 a w h => ?_
  refine regS mixed hn hG h [501, 500, 1, 2] (ov [0] (op_move q0) <| ov [500] (op_len_sl Tryd.underlying129 q0) <| ov [500] (op_assign q0) <| ov [] (op_assign (opc (ec _))) .nil) fun _ a w h => ?_
  refine wp_ret ?_
  replace h := h.unsep 2 3 rfl rfl (by decide)
  replace h := h.conv 2 rfl (R' := Bld_e p_0 (some ⟨L_0.f_buf ++ a_1⟩)) (Bld_packo (v1 := (b2 6)) (o := (some ⟨L_0.f_buf ++ a_1⟩)))
  replace h := h.sub [0, 1, 2] (by rfl)
  change SatL c [.slot 4 (intVP .i64 (a_1.length : Int)), .slot 5 (eqVP Value.nilIface), .res (Bld_e p_0 (some ⟨L_0.f_buf ++ a_1⟩))] a w at h
  obtain rfl := Option.some.inj hF
  exact ⟨.inl rfl, retn h (rs := [.tmp 4, .tmp 5]) (Vs := [(intVP .i64 (a_1.length : Int)), (eqVP Value.nilIface)]) Tryd.results87 (by decide) ⟨(r_tmp 0 rfl), (r_tmp 1 rfl), trivial⟩ [2] [(Bld_e p_0 (some ⟨L_0.f_buf ++ a_1⟩))] rfl rfl rfl⟩

def lamport_pair.b1 (a_1 : List (List UInt8)) (x10 : Int) (x11 : O_Bld) : Option (Flow ((List UInt8) × (Option O_Log)) (Int × O_Bld)) := (if (decide (x10 < (64 : Int))) = true then (if (0 : Int) ≤ x10 ∧ x10 < 64 then ((strings_Builder_Write x11 (((a_1.getD x10.toNat default).take (32 : Int).toNat).drop (0 : Int).toNat)).bind fun r21 => some (.cont (IntKind.wrap .i64 (x10 + 1), r21.2.2))) else none) else some (.brk (x10, x11)))
def lamport_pair (L_0 : Option O_Log) (a_1 : List (List UInt8)) : Option ((List UInt8) × (Option O_Log)) := ((loopN (fun s : Int × O_Bld => lamport_pair.b1 a_1 s.1 s.2) ((64 - 0 : Int).toNat + 2) (0, ⟨[]⟩)).bind fun cr => match cr with | .ret r => some r | .next (y26, y27) => ((strings_Builder_String y27).bind fun r28 => ((digest_Log_Of L_0 3 [r28]).bind fun r29 => some (r29.1, r29.2))))
theorem lamport_pair_ok {p_0 : Value} {L_0 : Option O_Log} {a_1 : List (List UInt8)} {r : (List UInt8) × (Option O_Log)} (hF : lamport_pair L_0 a_1 = some r) : CallOk Tryd.prog KG 70 [(eqVP p_0), (aggVP [arrCk 64 32 (dC 32) (lens_dC 32) a_1])] [(Log_e p_0 L_0)] (fun _ => [Log_e p_0 r.2]) (aggVP [bytesCk 32 r.1]) := by
  refine CallOk.intro 19 Tryd.func70 rfl Tryd.ntmps70 (Nat.le_of_ble_eq_true rfl) ?_
  intro c a w hG hn h
  unfold lamport_pair at hF
  change SatL c [.slot 0 (eqVP p_0), .slot 1 (aggVP [arrCk 64 32 (dC 32) (lens_dC 32) a_1]), .res (Log_e p_0 L_0)] a w at h
  refine regS mixed hn hG h [0, 503, 501, 2, 502, 500] (ob [1] (op_box q0 (cells_agg _)) <| ob [] (op_alloc Tryd.zeroValue23 z23) .nil) fun b1 a w h => ?_
  refine regS mixed hn hG h [0, 1, 2, 501, 3, 4, 5, 500] (ob [] (op_alloc Tryd.zeroValue143 zo143) .nil) fun b3 a w h => ?_
  refine wp_seq ?_
  refine regS mixed hn hG h [0, 2, 3, 501, 500, 4, 6, 7] (ov [1, 5] (op_load_w 1 Tryd.isAgg122 Tryd.sizeOf122 q0) <| ov [] (op_move qi) .nil) fun _ a w h => ?_
  refine wp_block ?_
  replace h := h.conv 7 rfl Bld_new
  replace h := h.slotc 2 rfl (fun _ _ h => lp_eqv h)
  replace h := h.sub [0, 1, 2, 3, 4, 5, 6, 7] (by rfl)
  change SatL c [.slot 0 (eqVP p_0), .slot 4 (lpVP (b1 1) 0), .slot 5 (eqVP (b3 0)), .slot 8 (aggVP [arrCk 64 32 (dC 32) (lens_dC 32) a_1]), .slot 9 (intVP .i64 0), .res (Log_e p_0 L_0), .res (lb (b1 1) 23 [bytesCk 32 (List.replicate 32 0)]), .res (Bld_e (b3 0) (some ⟨[]⟩))] a w at h
  obtain ⟨cr22, hl23, hF⟩ := bind_some hF
  refine wp_mono (wp_loopN (R := (List UInt8) × (Option O_Log)) (S := Int × O_Bld) (fun s a w => SatL c [.slot 0 (eqVP p_0), .slot 4 (lpVP (b1 1) 0), .slot 5 (eqVP (b3 0)), .slot 8 (aggVP [arrCk 64 32 (dC 32) (lens_dC 32) a_1]), .slot 9 (intVP .i64 s.1), .res (Log_e p_0 L_0), .res (lb (b1 1) 23 [bytesCk 32 (List.replicate 32 0)]), .res (Bld_e (b3 0) (some s.2))] a w) (fun res e a w => match res with | .next s => e = .exit 0 ∧ SatL c [.slot 0 (eqVP p_0), .slot 4 (lpVP (b1 1) 0), .slot 5 (eqVP (b3 0)), .res (Log_e p_0 L_0), .res (lb (b1 1) 23 [bytesCk 32 (List.replicate 32 0)]), .res (Bld_e (b3 0) (some s.2))] a w | .ret r => e = .ret ∧ RetOk Tryd.prog Tryd.f70 c (aggVP [bytesCk 32 r.1]) (fun _ => [Log_e p_0 r.2]) a w) ?_ _ (0, ⟨[]⟩) _ _ _ (h.sub [0, 1, 2, 3, 4, 5, 6, 7] (by rfl)) hl23) ?_
  · clear hl23 hF h
    intro s a w o h hF
    obtain ⟨x10, x11⟩ := s
    change lamport_pair.b1 a_1 x10 x11 = some o at hF
    unfold lamport_pair.b1 at hF
    change SatL c [.slot 0 (eqVP p_0), .slot 4 (lpVP (b1 1) 0), .slot 5 (eqVP (b3 0)), .slot 8 (aggVP [arrCk 64 32 (dC 32) (lens_dC 32) a_1]), .slot 9 (intVP .i64 x10), .res (Log_e p_0 L_0), .res (lb (b1 1) 23 [bytesCk 32 (List.replicate 32 0)]), .res (Bld_e (b3 0) (some x11))] a w at h
    refine regS mixed hn hG h [0, 1, 2, 3, 4, 500, 5, 6, 7] (ov [4] (op_bin bin_lss q0 qi) .nil) fun _ a w h => ?_
    refine wp_seq ?_
    refine cnd h hF 5 [0, 1, 2, 3, 4, 6, 7, 8] [0, 1, 2, 3, 4, 6, 7, 8] (fun hb18 hF h => ?_) (fun hb18 hF h => ?_)
    · refine wp_skip ?_
      show Code.wp Tryd.prog _ _ a w
      refine wp_seq ?_
      refine wp_block ?_
      obtain ⟨hv19, hF⟩ := ite_some hF
      refine regS mixed hn hG h [0, 1, 2, 502, 3, 4, 5, 6, 7, 500] (ov [3, 4] (op_index_aggA (c := (dC 32)) Tryd.underlying122 Tryd.sizeOf23 Tryd.isAgg23 q0 q1 hv19) <| ob [] (op_alloc Tryd.zeroValue23 z23) <| og [501, 502] [500] [.res 1 100000 (fun v1_ _ => (lb (v1_) 23 [bytesCk 32 (a_1.getD x10.toNat default)]))] (GOk.plain (op_store_w Tryd.sizeOf23 q0 q1 (cells_agg _)) rfl) .nil) fun b20 a w h => ?_
      replace h := h.publish 9 rfl
      replace h := h.factslot 3 9 rfl rfl
      replace h := h.sub [0, 1, 2, 3, 4, 5, 6, 7, 8] (by rfl)
      change SatL c [.slot 0 (eqVP p_0), .slot 4 (lpVP (b1 1) 0), .slot 5 (eqVP (b3 0)), .slot 7 (ppVP [bytesCk 32 (a_1.getD x10.toNat default)]), .slot 8 (aggVP [arrCk 64 32 (dC 32) (lens_dC 32) a_1]), .slot 9 (intVP .i64 x10), .res (Log_e p_0 L_0), .res (lb (b1 1) 23 [bytesCk 32 (List.replicate 32 0)]), .res (Bld_e (b3 0) (some x11))] a w at h
      obtain ⟨r21, hr21, hF⟩ := bind_some hF
      refine reg mixed hn hG h [0, 1, 2, 4, 5, 6, 7, 500] (ov [3] (op_slice_ppB (a := 0) (b := 32) Tryd.underlying23 Tryd.sizeOf5 q0 rfl rfl (by decide)) <| oc [2, 500] [8] Tryd.call87 (strings_Builder_Write_ok hr21) ⟨q0, q1, trivial⟩ .nil) fun _ a w h => ?_
      show Code.wp Tryd.prog _ _ a w
      refine reg mixed hn hG h [0, 1, 2, 3, 500, 5, 6, 7] (ov [4] (op_bin bin_add q0 qi) <| od [500] 4 (op_move q0) .nil) fun _ a w h => ?_
      obtain rfl := Option.some.inj hF
      exact ⟨rfl, h.sub [0, 1, 2, 3, 4, 5, 6, 7] (by rfl)⟩
    · refine wp_exit ?_
      obtain rfl := Option.some.inj hF
      exact ⟨exit_ne _, rfl, h.sub [0, 1, 2, 5, 6, 7] (by rfl)⟩
  · clear hl23
    intro e a w hq
    cases cr22 with
    | ret r24 =>
      obtain ⟨rfl, hq⟩ := hq
      obtain rfl := Option.some.inj hF
      exact ⟨.inl rfl, hq⟩
    | next s25 =>
      obtain ⟨y26, y27⟩ := s25
      obtain ⟨rfl, h⟩ := hq
      change SatL c [.slot 0 (eqVP p_0), .slot 4 (lpVP (b1 1) 0), .slot 5 (eqVP (b3 0)), .res (Log_e p_0 L_0), .res (lb (b1 1) 23 [bytesCk 32 (List.replicate 32 0)]), .res (Bld_e (b3 0) (some y27))] a w at h
      refine inBlock_at ?_
      show Code.wp Tryd.prog _ _ a w
      obtain ⟨r28, hr28, hF⟩ := bind_some hF
      obtain ⟨r29, hr29, hF⟩ := bind_some hF
      refine regS mixed hn hG h [1, 500, 501] (ov [0] (op_move q0) <| oc [2] [5] Tryd.call88 (strings_Builder_String_ok hr28) ⟨q0, trivial⟩ <| ov [500] (op_lit (xs := [.tmp 16]) (ys := [r28]) _ rfl Tryd.underlying101 Tryd.sizeOf9 Tryd.zeroValue9 rfl rfl (by decide) (by decide) ⟨⟨_, q0, (cells_one (one_str _))⟩, trivial⟩ lens_strC) <| oc [502, 500] [3] Tryd.call62 (digest_Log_Of_ok hr29) ⟨q0, qi, q1, trivial⟩ <| ou [1, 501] 4 (op_store_w Tryd.sizeOf23 q0 q1 (cells_agg _)) .nil) fun _ a w h => ?_
      refine wp_ret ?_
      obtain rfl := Option.some.inj hF
      exact ⟨.inl rfl, ret1 h Tryd.results70 (r_cell 0 1 rfl rfl Tryd.isAgg23 Tryd.sizeOf23 rfl) [2] [(Log_e p_0 r29.2)] rfl rfl rfl⟩

def lamport_Word.b1 (a_1 : List UInt8) (a_2 : Int) (x7 : Int) (x8 : Option O_Log) (x9 : List (List UInt8)) : Option (Flow ((List UInt8) × (Option O_Log)) (Int × (Option O_Log) × (List (List UInt8)))) := (if (decide (x7 < (64 : Int))) = true then ((lamport_Secret x8 a_1 a_2 (IntKind.wrap .i64 (x7.tdiv 2)) (x7.tmod 2)).bind fun r18 => ((lamport_Public r18.2 r18.1).bind fun r19 => (if (0 : Int) ≤ x7 ∧ x7 < 64 then some (.cont (IntKind.wrap .i64 (x7 + 1), r19.2, x9.set x7.toNat r19.1)) else none))) else some (.brk (x7, x8, x9)))
def lamport_Word (L_0 : Option O_Log) (a_1 : List UInt8) (a_2 : Int) : Option ((List UInt8) × (Option O_Log)) := ((loopN (fun s : Int × (Option O_Log) × (List (List UInt8)) => lamport_Word.b1 a_1 a_2 s.1 s.2.1 s.2.2) ((64 - 0 : Int).toNat + 2) (0, L_0, (List.replicate 64 (List.replicate 32 0)))).bind fun cr => match cr with | .ret r => some r | .next (y25, y26, y27) => ((lamport_pair y26 y27).bind fun r28 => some (r28.1, r28.2)))
theorem lamport_Word_ok {p_0 : Value} {L_0 : Option O_Log} {a_1 : List UInt8} {a_2 : Int} {r : (List UInt8) × (Option O_Log)} (hF : lamport_Word L_0 a_1 a_2 = some r) : CallOk Tryd.prog KG 48 [(eqVP p_0), (aggVP [bytesCk 32 a_1]), (intVP .i64 a_2)] [(Log_e p_0 L_0)] (fun _ => [Log_e p_0 r.2]) (aggVP [bytesCk 32 r.1]) := by
  refine CallOk.intro 28 Tryd.func48 rfl Tryd.ntmps48 (Nat.le_of_ble_eq_true rfl) ?_
  intro c a w hG hn h
  unfold lamport_Word at hF
  change SatL c [.slot 0 (eqVP p_0), .slot 1 (aggVP [bytesCk 32 a_1]), .slot 2 (intVP .i64 a_2), .res (Log_e p_0 L_0)] a w at h
  refine regS mixed hn hG h [0, 2, 503, 501, 3, 502, 500] (ob [1] (op_box q0 (cells_agg _)) <| ob [] (op_alloc Tryd.zeroValue23 z23) .nil) fun b1 a w h => ?_
  refine regS mixed hn hG h [0, 1, 2, 3, 501, 4, 5, 6, 500] (ob [] (op_alloc Tryd.zeroValue122 z122) .nil) fun b3 a w h => ?_
  refine wp_seq ?_
  refine regS mixed hn hG h [0, 1, 2, 3, 4, 500, 5, 6, 7, 8] (ov [] (op_move qi) .nil) fun _ a w h => ?_
  refine wp_block ?_
  obtain ⟨cr21, hl22, hF⟩ := bind_some hF
  refine wp_mono (wp_loopN (R := (List UInt8) × (Option O_Log)) (S := Int × (Option O_Log) × (List (List UInt8))) (fun s a w => SatL c [.slot 0 (eqVP p_0), .slot 2 (intVP .i64 a_2), .slot 4 (lpVP (b1 0) 0), .slot 6 (lpVP (b1 1) 0), .slot 7 (lpVP (b3 0) 0), .slot 9 (intVP .i64 s.1), .res (Log_e p_0 s.2.1), .res (lb (b1 0) 23 [bytesCk 32 a_1]), .res (lb (b1 1) 23 [bytesCk 32 (List.replicate 32 0)]), .res (lb (b3 0) 122 [arrCk 64 32 (dC 32) (lens_dC 32) s.2.2])] a w) (fun res e a w => match res with | .next s => e = .exit 0 ∧ SatL c [.slot 0 (eqVP p_0), .slot 6 (lpVP (b1 1) 0), .slot 7 (lpVP (b3 0) 0), .res (Log_e p_0 s.2.1), .res (lb (b1 1) 23 [bytesCk 32 (List.replicate 32 0)]), .res (lb (b3 0) 122 [arrCk 64 32 (dC 32) (lens_dC 32) s.2.2])] a w | .ret r => e = .ret ∧ RetOk Tryd.prog Tryd.f48 c (aggVP [bytesCk 32 r.1]) (fun _ => [Log_e p_0 r.2]) a w) ?_ _ (0, L_0, (List.replicate 64 (List.replicate 32 0))) _ _ _ (h.sub [0, 1, 2, 3, 4, 5, 6, 7, 8, 9] (by rfl)) hl22) ?_
  · clear hl22 hF h
    intro s a w o h hF
    obtain ⟨x7, x8, x9⟩ := s
    change lamport_Word.b1 a_1 a_2 x7 x8 x9 = some o at hF
    unfold lamport_Word.b1 at hF
    change SatL c [.slot 0 (eqVP p_0), .slot 2 (intVP .i64 a_2), .slot 4 (lpVP (b1 0) 0), .slot 6 (lpVP (b1 1) 0), .slot 7 (lpVP (b3 0) 0), .slot 9 (intVP .i64 x7), .res (Log_e p_0 x8), .res (lb (b1 0) 23 [bytesCk 32 a_1]), .res (lb (b1 1) 23 [bytesCk 32 (List.replicate 32 0)]), .res (lb (b3 0) 122 [arrCk 64 32 (dC 32) (lens_dC 32) x9])] a w at h
    refine regS mixed hn hG h [0, 1, 2, 3, 4, 5, 500, 6, 7, 8, 9] (ov [5] (op_bin bin_lss q0 qi) .nil) fun _ a w h => ?_
    refine wp_seq ?_
    refine cnd h hF 6 [0, 1, 2, 3, 4, 5, 7, 8, 9, 10] [0, 1, 2, 3, 4, 5, 7, 8, 9, 10] (fun hb17 hF h => ?_) (fun hb17 hF h => ?_)
    · refine wp_skip ?_
      show Code.wp Tryd.prog _ _ a w
      refine wp_seq ?_
      refine wp_block ?_
      refine regS mixed hn hG h [0, 1, 2, 3, 4, 500, 5, 6, 7, 8, 9] (ov [5] (op_move q0) <| ov [500] (op_assign q0) .nil) fun _ a w h => ?_
      obtain ⟨r18, hr18, hF⟩ := bind_some hF
      obtain ⟨r19, hr19, hF⟩ := bind_some hF
      obtain ⟨hv20, hF⟩ := ite_some hF
      refine reg mixed hn hG h [0, 1, 2, 3, 4, 6, 8, 9, 500, 502] (ov [5] (op_move q0) <| ov [0] (op_move q0) <| ov [0] (op_move q0) <| ov [2, 8] (op_load_w 1 Tryd.isAgg23 Tryd.sizeOf23 q0) <| ov [1] (op_move q0) <| ov [5] (op_move q0) <| ov [500] (op_bin (bin_quo (by decide)) q0 qi) <| ov [5] (op_move q0) <| ov [500] (op_bin (bin_rem (by decide)) q0 qi) <| oc [506, 505, 504, 502, 500] [7] Tryd.call69 (lamport_Secret_ok hr18) ⟨q0, q1, q2, q3, (opt 4 rfl), trivial⟩ <| oc [509, 501] [500] Tryd.call68 (lamport_Public_ok hr19) ⟨q0, q1, trivial⟩ <| ov [4, 512] (op_indexAddr_lb Tryd.underlying122 Tryd.sizeOf23 q0 q1 hv20) <| ou [500, 502] 10 (op_store_lbA (i := x7) [] [] Tryd.sizeOf23 q0 q1 rfl hv20) .nil) fun _ a w h => ?_
      show Code.wp Tryd.prog _ _ a w
      refine reg mixed hn hG h [0, 1, 2, 3, 4, 500, 6, 7, 8, 9] (ov [5] (op_bin bin_add q0 qi) <| od [500] 5 (op_move q0) .nil) fun _ a w h => ?_
      obtain rfl := Option.some.inj hF
      exact ⟨rfl, h.sub [0, 1, 2, 3, 4, 5, 9, 6, 7, 8] (by rfl)⟩
    · refine wp_exit ?_
      obtain rfl := Option.some.inj hF
      exact ⟨exit_ne _, rfl, h.sub [0, 3, 4, 6, 8, 9] (by rfl)⟩
  · clear hl22
    intro e a w hq
    cases cr21 with
    | ret r23 =>
      obtain ⟨rfl, hq⟩ := hq
      obtain rfl := Option.some.inj hF
      exact ⟨.inl rfl, hq⟩
    | next s24 =>
      obtain ⟨y25, y26, y27⟩ := s24
      obtain ⟨rfl, h⟩ := hq
      change SatL c [.slot 0 (eqVP p_0), .slot 6 (lpVP (b1 1) 0), .slot 7 (lpVP (b3 0) 0), .res (Log_e p_0 y26), .res (lb (b1 1) 23 [bytesCk 32 (List.replicate 32 0)]), .res (lb (b3 0) 122 [arrCk 64 32 (dC 32) (lens_dC 32) y27])] a w at h
      refine inBlock_at ?_
      show Code.wp Tryd.prog _ _ a w
      obtain ⟨r28, hr28, hF⟩ := bind_some hF
      refine regS mixed hn hG h [1, 500, 501] (ov [0] (op_move q0) <| ov [2, 5] (op_load_w 1 Tryd.isAgg122 Tryd.sizeOf122 q0) <| oc [501, 500] [3] Tryd.call70 (lamport_pair_ok hr28) ⟨q0, q1, trivial⟩ <| ou [1, 501] 4 (op_store_w Tryd.sizeOf23 q0 q1 (cells_agg _)) .nil) fun _ a w h => ?_
      refine wp_ret ?_
      obtain rfl := Option.some.inj hF
      exact ⟨.inl rfl, ret1 h Tryd.results48 (r_cell 0 1 rfl rfl Tryd.isAgg23 Tryd.sizeOf23 rfl) [2] [(Log_e p_0 r28.2)] rfl rfl rfl⟩

def keys_New.b1 (a_1 : List UInt8) (x9 : Int) (x10 : Option O_Log) (x11 : Option S_keys_Signer) : Option (Flow (S_keys_Signer × (Option O_Log)) (Int × (Option O_Log) × (Option S_keys_Signer))) := (if (decide (x9 < (16 : Int))) = true then ((x11).bind fun s23 => ((lamport_Word x10 a_1 x9).bind fun r26 => (if s23.f_Leaves.length + [r26.1].length ≤ mxl ∧ (s23.f_Leaves.length + [r26.1].length) * 32 ≤ 140737488355328 then some (.cont (IntKind.wrap .i64 (x9 + 1), r26.2, (some ⟨s23.f_Seed, s23.f_Next, s23.f_Leaves ++ [r26.1]⟩))) else none))) else some (.brk (x9, x10, x11)))
def keys_New (L_0 : Option O_Log) (a_1 : List UInt8) : Option (S_keys_Signer × (Option O_Log)) := ((loopN (fun s : Int × (Option O_Log) × (Option S_keys_Signer) => keys_New.b1 a_1 s.1 s.2.1 s.2.2) ((16 - 0 : Int).toNat + 2) (0, L_0, (some ⟨a_1, (0 : Int), []⟩))).bind fun cr => match cr with | .ret r => some r | .next (y33, y34, y35) => ((y35).bind fun s36 => some (s36, y34)))
theorem keys_New_ok {p_0 : Value} {L_0 : Option O_Log} {a_1 : List UInt8} {r : S_keys_Signer × (Option O_Log)} (hF : keys_New L_0 a_1 = some r) : CallOk Tryd.prog KG 12 [(eqVP p_0), (aggVP [bytesCk 32 a_1])] [(Log_e p_0 L_0)] (fun _ => [Log_e p_0 r.2]) (aggVP [bytesCk 32 r.1.f_Seed, one (intVP .i64 r.1.f_Next), one (slVP (dC 32) r.1.f_Leaves)]) := by
  refine CallOk.intro 23 Tryd.func12 rfl Tryd.ntmps12 (Nat.le_of_ble_eq_true rfl) ?_
  intro c a w hG hn h
  unfold keys_New at hF
  change SatL c [.slot 0 (eqVP p_0), .slot 1 (aggVP [bytesCk 32 a_1]), .res (Log_e p_0 L_0)] a w at h
  refine regS mixed hn hG h [0, 503, 501, 2, 502, 500] (ob [1] (op_box q0 (cells_agg _)) <| ob [] (op_alloc Tryd.zeroValue27 zo27) .nil) fun b1 a w h => ?_
  refine regS mixed hn hG h [0, 1, 2, 502, 3, 4, 5, 500] (ov [1, 4] (op_load_w 1 Tryd.isAgg23 Tryd.sizeOf23 q0) <| ov [500] (op_build [(0, .tmp 7)] rfl bu27 zo27 ⟨[], [bytesCk 32 (List.replicate 32 0)], [one (intVP .i64 (0 : Int)), one (eqVP (.slice none 0 0))], [bytesCk 32 a_1], _, rfl, rfl, rfl, q0, (cells_agg _), rfl⟩) <| ob [] (op_alloc Tryd.zeroValue27 zo27) <| og [501, 502] [500] [.res 2 100000 (fun v1_ _ => (lb (v1_) 27 [bytesCk 32 a_1, one (intVP .i64 (0 : Int)), one (eqVP (.slice none 0 0))]))] (GOk.plain (op_store_w Tryd.sizeOf27 q0 q1 (cells_agg _)) rfl) .nil) fun b3 a w h => ?_
  refine wp_seq ?_
  refine regS mixed hn hG h [0, 1, 2, 3, 500, 4, 5, 6, 7] (ov [] (op_move qi) .nil) fun _ a w h => ?_
  refine wp_block ?_
  replace h := h.nilacc 23 32 (dC 32)
  replace h := h.unsep 8 9 rfl rfl (by decide)
  replace h := h.conv 8 rfl (R' := Sgn_e (b3 2) (some ⟨a_1, (0 : Int), []⟩)) (Sgn_packo (v2 := (.slice none 0 0)) (o := (some ⟨a_1, (0 : Int), []⟩)))
  replace h := h.slotc 3 rfl (fun _ _ h => lp_eqv h)
  replace h := h.sub [0, 1, 2, 3, 4, 5, 6, 7, 8] (by rfl)
  change SatL c [.slot 0 (eqVP p_0), .slot 3 (lpVP (b1 0) 0), .slot 4 (lpVP (b1 1) 0), .slot 5 (eqVP (b3 2)), .slot 9 (intVP .i64 0), .res (Log_e p_0 L_0), .res (lb (b1 0) 23 [bytesCk 32 a_1]), .res (lb (b1 1) 27 [bytesCk 32 (List.replicate 32 0), one (intVP .i64 (0 : Int)), one (eqVP (.slice none 0 0))]), .res (Sgn_e (b3 2) (some ⟨a_1, (0 : Int), []⟩))] a w at h
  obtain ⟨cr29, hl30, hF⟩ := bind_some hF
  refine wp_mono (wp_loopN (R := S_keys_Signer × (Option O_Log)) (S := Int × (Option O_Log) × (Option S_keys_Signer)) (fun s a w => SatL c [.slot 0 (eqVP p_0), .slot 3 (lpVP (b1 0) 0), .slot 4 (lpVP (b1 1) 0), .slot 5 (eqVP (b3 2)), .slot 9 (intVP .i64 s.1), .res (Log_e p_0 s.2.1), .res (lb (b1 0) 23 [bytesCk 32 a_1]), .res (lb (b1 1) 27 [bytesCk 32 (List.replicate 32 0), one (intVP .i64 (0 : Int)), one (eqVP (.slice none 0 0))]), .res (Sgn_e (b3 2) s.2.2)] a w) (fun res e a w => match res with | .next s => e = .exit 0 ∧ SatL c [.slot 4 (lpVP (b1 1) 0), .slot 5 (eqVP (b3 2)), .res (Log_e p_0 s.2.1), .res (lb (b1 1) 27 [bytesCk 32 (List.replicate 32 0), one (intVP .i64 (0 : Int)), one (eqVP (.slice none 0 0))]), .res (Sgn_e (b3 2) s.2.2)] a w | .ret r => e = .ret ∧ RetOk Tryd.prog Tryd.f12 c (aggVP [bytesCk 32 r.1.f_Seed, one (intVP .i64 r.1.f_Next), one (slVP (dC 32) r.1.f_Leaves)]) (fun _ => [Log_e p_0 r.2]) a w) ?_ _ (0, L_0, (some ⟨a_1, (0 : Int), []⟩)) _ _ _ (h.sub [0, 1, 2, 3, 4, 5, 6, 7, 8] (by rfl)) hl30) ?_
  · clear hl30 hF h
    intro s a w o h hF
    obtain ⟨x9, x10, x11⟩ := s
    change keys_New.b1 a_1 x9 x10 x11 = some o at hF
    unfold keys_New.b1 at hF
    change SatL c [.slot 0 (eqVP p_0), .slot 3 (lpVP (b1 0) 0), .slot 4 (lpVP (b1 1) 0), .slot 5 (eqVP (b3 2)), .slot 9 (intVP .i64 x9), .res (Log_e p_0 x10), .res (lb (b1 0) 23 [bytesCk 32 a_1]), .res (lb (b1 1) 27 [bytesCk 32 (List.replicate 32 0), one (intVP .i64 (0 : Int)), one (eqVP (.slice none 0 0))]), .res (Sgn_e (b3 2) x11)] a w at h
    refine regS mixed hn hG h [0, 1, 2, 3, 4, 500, 5, 6, 7, 8] (ov [4] (op_bin bin_lss q0 qi) .nil) fun _ a w h => ?_
    refine wp_seq ?_
    refine cnd h hF 5 [0, 1, 2, 3, 4, 6, 7, 8, 9] [0, 1, 2, 3, 4, 6, 7, 8, 9] (fun hb22 hF h => ?_) (fun hb22 hF h => ?_)
    · refine wp_skip ?_
      show Code.wp Tryd.prog _ _ a w
      refine wp_seq ?_
      refine wp_block ?_
      refine regS mixed hn hG h [0, 1, 2, 3, 500, 4, 5, 6, 7, 8] (ov [4] (op_move q0) <| ov [500] (op_assign q0) .nil) fun _ a w h => ?_
      obtain ⟨s23, hs24, hF⟩ := bind_some hF
      rw [hs24] at h
      obtain ⟨h25, h⟩ := h.ex 9 rfl
      have hp := h.isp 9 rfl (fun Φ f w q => Sgn_lp Φ f w q)
      replace h := h.slotc 3 rfl (V' := lpVP (b3 2) 0) (fun _ _ h => eq_lp h hp)
      replace h := h.sep (R := lb (b3 2) 27 [bytesCk 32 s23.f_Seed, one (intVP .i64 s23.f_Next), one (eqVP h25)]) (S := (acc h25 23 32 (dC 32) s23.f_Leaves)) 9 rfl
      replace h := h.sub [0, 1, 2, 3, 4, 5, 6, 7, 8, 9, 10] (by rfl)
      change SatL c [.slot 0 (eqVP p_0), .slot 3 (lpVP (b1 0) 0), .slot 4 (lpVP (b1 1) 0), .slot 5 (lpVP (b3 2) 0), .slot 6 (intVP .i64 x9), .slot 9 (intVP .i64 x9), .res (Log_e p_0 x10), .res (lb (b1 0) 23 [bytesCk 32 a_1]), .res (lb (b1 1) 27 [bytesCk 32 (List.replicate 32 0), one (intVP .i64 (0 : Int)), one (eqVP (.slice none 0 0))]), .res (lb (b3 2) 27 [bytesCk 32 s23.f_Seed, one (intVP .i64 s23.f_Next), one (eqVP h25)]), .res (acc h25 23 32 (dC 32) s23.f_Leaves)] a w at h
      replace h := h.nilacc 23 32 (dC 32)
      replace h := h.sub [0, 1, 2, 3, 4, 5, 6, 7, 8, 9, 10, 11] (by rfl)
      change SatL c [.slot 0 (eqVP p_0), .slot 3 (lpVP (b1 0) 0), .slot 4 (lpVP (b1 1) 0), .slot 5 (lpVP (b3 2) 0), .slot 6 (intVP .i64 x9), .slot 9 (intVP .i64 x9), .res (Log_e p_0 x10), .res (lb (b1 0) 23 [bytesCk 32 a_1]), .res (lb (b1 1) 27 [bytesCk 32 (List.replicate 32 0), one (intVP .i64 (0 : Int)), one (eqVP (.slice none 0 0))]), .res (lb (b3 2) 27 [bytesCk 32 s23.f_Seed, one (intVP .i64 s23.f_Next), one (eqVP h25)]), .res (acc h25 23 32 (dC 32) s23.f_Leaves), .res (acc (.slice none 0 0) 23 32 (dC 32) ([] : List (List UInt8)))] a w at h
      obtain ⟨r26, hr26, hF⟩ := bind_some hF
      obtain ⟨hv27, hF⟩ := ite_some hF
      refine reg mixed hn hG h [0, 1, 2, 3, 5, 7, 8, 500, 505, 502] (ov [3] (op_fieldAddr_lbm (p := (b3 2)) (n := 1) 0 33 Tryd.underlying27 rfl Tryd.sizeOf24 (by decide) q0 rfl) <| ov [500, 9] (op_load_lb1 [bytesCk 32 s23.f_Seed, one (intVP .i64 s23.f_Next)] [] 1 Tryd.isAgg24 q0 rfl rfl) <| ov [0] (op_move q0) <| ov [1, 7] (op_load_w 1 Tryd.isAgg23 Tryd.sizeOf23 q0) <| ov [4] (op_move q0) <| oc [502, 501, 500] [6] Tryd.call48 (lamport_Word_ok hr26) ⟨q0, q1, q2, trivial⟩ <| ov [501] (op_lit (xs := [.tmp 17]) (ys := [r26.1]) _ rfl Tryd.underlying24 Tryd.sizeOf23 Tryd.zeroValue23 rfl rfl (by decide) (by decide) ⟨⟨_, q0, (cells_agg _)⟩, trivial⟩ (lens_dC 32)) <| og [506, 500] [10] [.slot 19 7 100000 (fun v1_ _ => (eqVP v1_)), .res 7 100000 (fun v1_ _ => (acc (v1_) 23 32 (dC 32) (s23.f_Leaves ++ [r26.1])))] (GOk.plain (op_append (i := Tryd.t23) Tryd.underlying24 Tryd.type23 rfl (lens_dC 32) (by decide) rfl q0 q1 hv27) rfl) <| ov [3] (op_fieldAddr_lbm (p := (b3 2)) (n := 1) 0 33 Tryd.underlying27 rfl Tryd.sizeOf24 (by decide) q0 rfl) <| og [500, 502, 501] [9] [.res 7 100000 (fun v1_ _ => (lb (b3 2) 27 [bytesCk 32 s23.f_Seed, one (intVP .i64 s23.f_Next), one (eqVP (v1_))]))] (fun {β} => (GOk.plain (op_store_lb [bytesCk 32 s23.f_Seed, one (intVP .i64 s23.f_Next)] [one (eqVP h25)] [] [one (eqVP ((β 7)))] Tryd.sizeOf24 q0 (opone 1 2 rfl rfl acc_one) (cells_h _) rfl rfl rfl) rfl)) .nil) fun b28 a w h => ?_
      replace h := h.unsep 7 9 rfl rfl (by decide)
      replace h := h.conv 7 rfl (R' := Sgn_e (b3 2) (some ⟨s23.f_Seed, s23.f_Next, s23.f_Leaves ++ [r26.1]⟩)) (Sgn_packo (v2 := (b28 7)) (o := (some ⟨s23.f_Seed, s23.f_Next, s23.f_Leaves ++ [r26.1]⟩)))
      replace h := h.slotc 3 rfl (fun _ _ h => lp_eqv h)
      replace h := h.sub [0, 1, 2, 3, 4, 5, 6, 8, 7] (by rfl)
      change SatL c [.slot 0 (eqVP p_0), .slot 3 (lpVP (b1 0) 0), .slot 4 (lpVP (b1 1) 0), .slot 5 (eqVP (b3 2)), .slot 9 (intVP .i64 x9), .res (lb (b1 0) 23 [bytesCk 32 a_1]), .res (lb (b1 1) 27 [bytesCk 32 (List.replicate 32 0), one (intVP .i64 (0 : Int)), one (eqVP (.slice none 0 0))]), .res (Log_e p_0 r26.2), .res (Sgn_e (b3 2) (some ⟨s23.f_Seed, s23.f_Next, s23.f_Leaves ++ [r26.1]⟩))] a w at h
      show Code.wp Tryd.prog _ _ a w
      refine reg mixed hn hG h [0, 1, 2, 3, 500, 5, 6, 7, 8] (ov [4] (op_bin bin_add q0 qi) <| od [500] 4 (op_move q0) .nil) fun _ a w h => ?_
      obtain rfl := Option.some.inj hF
      exact ⟨rfl, h.sub [0, 1, 2, 3, 4, 7, 5, 6, 8] (by rfl)⟩
    · refine wp_exit ?_
      obtain rfl := Option.some.inj hF
      exact ⟨exit_ne _, rfl, h.sub [2, 3, 5, 7, 8] (by rfl)⟩
  · clear hl30
    intro e a w hq
    cases cr29 with
    | ret r31 =>
      obtain ⟨rfl, hq⟩ := hq
      obtain rfl := Option.some.inj hF
      exact ⟨.inl rfl, hq⟩
    | next s32 =>
      obtain ⟨y33, y34, y35⟩ := s32
      obtain ⟨rfl, h⟩ := hq
      change SatL c [.slot 4 (lpVP (b1 1) 0), .slot 5 (eqVP (b3 2)), .res (Log_e p_0 y34), .res (lb (b1 1) 27 [bytesCk 32 (List.replicate 32 0), one (intVP .i64 (0 : Int)), one (eqVP (.slice none 0 0))]), .res (Sgn_e (b3 2) y35)] a w at h
      refine inBlock_at ?_
      show Code.wp Tryd.prog _ _ a w
      obtain ⟨s36, hs37, hF⟩ := bind_some hF
      rw [hs37] at h
      obtain ⟨h38, h⟩ := h.ex 4 rfl
      have hp := h.isp 4 rfl (fun Φ f w q => Sgn_lp Φ f w q)
      replace h := h.slotc 1 rfl (V' := lpVP (b3 2) 0) (fun _ _ h => eq_lp h hp)
      replace h := h.sep (R := lb (b3 2) 27 [bytesCk 32 s36.f_Seed, one (intVP .i64 s36.f_Next), one (eqVP h38)]) (S := (acc h38 23 32 (dC 32) s36.f_Leaves)) 4 rfl
      replace h := h.sub [0, 1, 2, 3, 4, 5] (by rfl)
      change SatL c [.slot 4 (lpVP (b1 1) 0), .slot 5 (lpVP (b3 2) 0), .res (Log_e p_0 y34), .res (lb (b1 1) 27 [bytesCk 32 (List.replicate 32 0), one (intVP .i64 (0 : Int)), one (eqVP (.slice none 0 0))]), .res (lb (b3 2) 27 [bytesCk 32 s36.f_Seed, one (intVP .i64 s36.f_Next), one (eqVP h38)]), .res (acc h38 23 32 (dC 32) s36.f_Leaves)] a w at h
      replace h := h.unsep 4 5 rfl rfl (by decide)
      replace h := h.conv 4 rfl (settle (pre := [bytesCk 32 s36.f_Seed, one (intVP .i64 s36.f_Next)]) (post := []))
      replace h := h.sep 4 rfl
      replace h := h.sub [0, 1, 2, 3, 4] (by rfl)
      change SatL c [.slot 4 (lpVP (b1 1) 0), .slot 5 (lpVP (b3 2) 0), .res (Log_e p_0 y34), .res (lb (b1 1) 27 [bytesCk 32 (List.replicate 32 0), one (intVP .i64 (0 : Int)), one (eqVP (.slice none 0 0))]), .res (lb (b3 2) 27 [bytesCk 32 s36.f_Seed, one (intVP .i64 s36.f_Next), one (slVP (dC 32) s36.f_Leaves)])] a w at h
      refine regS mixed hn hG h [0, 2, 500] (ov [1, 4] (op_load_w 1 Tryd.isAgg27 Tryd.sizeOf27 q0) <| ou [0, 500] 3 (op_store_w Tryd.sizeOf27 q0 q1 (cells_agg _)) .nil) fun _ a w h => ?_
      refine wp_ret ?_
      obtain rfl := Option.some.inj hF
      exact ⟨.inl rfl, ret1 h Tryd.results12 (r_cell 0 2 rfl rfl Tryd.isAgg27 Tryd.sizeOf27 rfl) [1] [(Log_e p_0 y34)] rfl rfl rfl⟩

def digest_Log_Two (L_0 : Option O_Log) (a_1 : Int) (a_2 : List UInt8) (a_3 : List UInt8) : Option ((List UInt8) × (Option O_Log)) := ((wire_Digest a_2).bind fun r4 => ((wire_Digest a_3).bind fun r5 => ((digest_Log_Of L_0 a_1 [r4, r5]).bind fun r6 => some (r6.1, r6.2))))
theorem digest_Log_Two_ok {p_0 : Value} {L_0 : Option O_Log} {a_1 : Int} {a_2 : List UInt8} {a_3 : List UInt8} {r : (List UInt8) × (Option O_Log)} (hF : digest_Log_Two L_0 a_1 a_2 a_3 = some r) : CallOk Tryd.prog KG 71 [(eqVP p_0), (intVP .u8 a_1), (aggVP [bytesCk 32 a_2]), (aggVP [bytesCk 32 a_3])] [(Log_e p_0 L_0)] (fun _ => [Log_e p_0 r.2]) (aggVP [bytesCk 32 r.1]) := by
  refine CallOk.intro 17 Tryd.func71 rfl Tryd.ntmps71 (Nat.le_of_ble_eq_true rfl) ?_
  intro c a w hG hn h
  unfold digest_Log_Two at hF
  change SatL c [.slot 0 (eqVP p_0), .slot 1 (intVP .u8 a_1), .slot 2 (aggVP [bytesCk 32 a_2]), .slot 3 (aggVP [bytesCk 32 a_3]), .res (Log_e p_0 L_0)] a w at h
  refine regS mixed hn hG h [0, 1, 505, 503, 501, 4, 504, 502, 500] (ob [2] (op_box q0 (cells_agg _)) <| ob [3] (op_box q0 (cells_agg _)) <| ob [] (op_alloc Tryd.zeroValue23 z23) .nil) fun b1 a w h => ?_
  obtain ⟨r4, hr4, hF⟩ := bind_some hF
  obtain ⟨r5, hr5, hF⟩ := bind_some hF
  obtain ⟨r6, hr6, hF⟩ := bind_some hF
  refine regS mixed hn hG h [4, 500, 501] (ov [0] (op_move q0) <| ov [1] (op_move q0) <| ov [2, 6] (op_load_w 1 Tryd.isAgg23 Tryd.sizeOf23 q0) <| oc [500] [] Tryd.call64 (wire_Digest_ok hr4) ⟨q0, trivial⟩ <| ov [3, 7] (op_load_w 1 Tryd.isAgg23 Tryd.sizeOf23 q0) <| oc [500] [] Tryd.call64 (wire_Digest_ok hr5) ⟨q0, trivial⟩ <| ov [502, 500] (op_lit (xs := [.tmp 12, .tmp 14]) (ys := [r4, r5]) _ rfl Tryd.underlying101 Tryd.sizeOf9 Tryd.zeroValue9 rfl rfl (by decide) (by decide) ⟨⟨_, q0, (cells_one (one_str _))⟩, ⟨_, q1, (cells_one (one_str _))⟩, trivial⟩ lens_strC) <| oc [506, 505, 500] [5] Tryd.call62 (digest_Log_Of_ok hr6) ⟨q0, q1, q2, trivial⟩ <| ou [4, 501] 8 (op_store_w Tryd.sizeOf23 q0 q1 (cells_agg _)) .nil) fun _ a w h => ?_
  refine wp_ret ?_
  obtain rfl := Option.some.inj hF
  exact ⟨.inl rfl, ret1 h Tryd.results71 (r_cell 0 1 rfl rfl Tryd.isAgg23 Tryd.sizeOf23 rfl) [2] [(Log_e p_0 r6.2)] rfl rfl rfl⟩

def keys_up.b1 (a_1 : List (List UInt8)) (x15 : Int) (x16 : Option O_Log) (x17 : List (List UInt8)) : Option (Flow ((List (List UInt8)) × (Option O_Log)) (Int × (Option O_Log) × (List (List UInt8)))) := (if (decide ((IntKind.wrap .i64 (x15 + 1)) < (a_1.length : Int))) = true then (if (0 : Int) ≤ x15 ∧ x15 < a_1.length then (if (0 : Int) ≤ IntKind.wrap .i64 (x15 + 1) ∧ IntKind.wrap .i64 (x15 + 1) < a_1.length then ((digest_Log_Two x16 4 (a_1.getD x15.toNat default) (a_1.getD (IntKind.wrap .i64 (x15 + 1)).toNat default)).bind fun r32 => (if x17.length + [r32.1].length ≤ mxl ∧ (x17.length + [r32.1].length) * 32 ≤ 140737488355328 then some (.cont (IntKind.wrap .i64 (x15 + 2), r32.2, x17 ++ [r32.1])) else none)) else none) else none) else some (.brk (x15, x16, x17)))
def keys_up (L_0 : Option O_Log) (a_1 : List (List UInt8)) : Option ((List (List UInt8)) × (Option O_Log)) := ((loopN (fun s : Int × (Option O_Log) × (List (List UInt8)) => keys_up.b1 a_1 s.1 s.2.1 s.2.2) 100000 (0, L_0, [])).bind fun cr => match cr with | .ret r => some r | .next (y39, y40, y41) => some (y41, y40))
theorem keys_up_ok {p_0 : Value} {L_0 : Option O_Log} {a_1 : List (List UInt8)} {r : (List (List UInt8)) × (Option O_Log)} (hF : keys_up L_0 a_1 = some r) : CallOk Tryd.prog KG 49 [(eqVP p_0), (slVP (dC 32) a_1)] [(Log_e p_0 L_0)] (fun _ => [Log_e p_0 r.2]) (slVP (dC 32) r.1) := by
  refine CallOk.intro 29 Tryd.func49 rfl Tryd.ntmps49 (Nat.le_of_ble_eq_true rfl) ?_
  intro c a w hG hn h
  unfold keys_up at hF
  change SatL c [.slot 0 (eqVP p_0), .slot 1 (slVP (dC 32) a_1), .res (Log_e p_0 L_0)] a w at h
  refine regS mixed hn hG h [0, 1, 2] (ov [] (op_assign (opc (ec _))) .nil) fun _ a w h => ?_
  refine regS mixed hn hG h [0, 1, 500, 2] (ov [] (op_assign (opc (ec _))) .nil) fun _ a w h => ?_
  refine wp_seq ?_
  refine regS mixed hn hG h [0, 1, 2, 500, 3] (ov [] (op_assign qi) .nil) fun _ a w h => ?_
  refine wp_block ?_
  obtain ⟨q8, h⟩ : ∃ q8 : Value, SatL c [.slot 0 (eqVP p_0), .slot 1 (slVP (dC 32) a_1), .slot 5 (eqVP q8), .slot 6 (intVP .i64 0), .res (Log_e p_0 L_0), .res (acc q8 23 32 (dC 32) [])] a w := ⟨.slice none 0 0, (h.nilacc 23 32 (dC 32)).sub [0, 1, 2, 3, 4, 5] (by rfl)⟩
  obtain ⟨cr35, hl36, hF⟩ := bind_some hF
  refine wp_mono (wp_loopN (R := (List (List UInt8)) × (Option O_Log)) (S := Int × (Option O_Log) × (List (List UInt8))) (fun s a w => ∃ q18 : Value, SatL c [.slot 0 (eqVP p_0), .slot 1 (slVP (dC 32) a_1), .slot 5 (eqVP q18), .slot 6 (intVP .i64 s.1), .res (Log_e p_0 s.2.1), .res (acc q18 23 32 (dC 32) s.2.2)] a w) (fun res e a w => match res with | .next s => e = .exit 0 ∧ ∃ q18 : Value, SatL c [.slot 5 (eqVP q18), .res (Log_e p_0 s.2.1), .res (acc q18 23 32 (dC 32) s.2.2)] a w | .ret r => e = .ret ∧ RetOk Tryd.prog Tryd.f49 c (slVP (dC 32) r.1) (fun _ => [Log_e p_0 r.2]) a w) ?_ _ (0, L_0, []) _ _ _ ⟨q8, (h.sub [0, 1, 2, 3, 4, 5] (by rfl))⟩ hl36) ?_
  · clear hl36 hF h
    intro s a w o h hF
    obtain ⟨x15, x16, x17⟩ := s
    obtain ⟨q18, h⟩ := h
    change keys_up.b1 a_1 x15 x16 x17 = some o at hF
    unfold keys_up.b1 at hF
    change SatL c [.slot 0 (eqVP p_0), .slot 1 (slVP (dC 32) a_1), .slot 5 (eqVP q18), .slot 6 (intVP .i64 x15), .res (Log_e p_0 x16), .res (acc q18 23 32 (dC 32) x17)] a w at h
    refine wp_seq ?_
    refine regS mixed hn hG h [0, 1, 2, 3, 500, 4, 5] (ov [3] (op_move q0) <| ov [500] (op_bin bin_add q0 qi) <| ov [1] (op_move q0) <| ov [500] (op_len_sl Tryd.underlying24 q0) <| ov [502, 500] (op_bin bin_lss q0 q1) .nil) fun _ a w h => ?_
    refine cnd h hF 4 [0, 1, 2, 3, 5, 6] [0, 1, 2, 3, 5, 6] (fun hb29 hF h => ?_) (fun hb29 hF h => ?_)
    · refine wp_skip ?_
      show Code.wp Tryd.prog _ _ a w
      refine wp_seq ?_
      refine wp_block ?_
      obtain ⟨hv30, hF⟩ := ite_some hF
      obtain ⟨hv31, hF⟩ := ite_some hF
      obtain ⟨r32, hr32, hF⟩ := bind_some hF
      obtain ⟨hv33, hF⟩ := ite_some hF
      refine reg mixed hn hG h [0, 1, 500, 3, 504, 501] (ov [2] (op_move q0) <| ov [0] (op_move q0) <| ov [1] (op_move q0) <| ov [3] (op_move q0) <| ov [501, 500] (op_indexAddr_sl Tryd.underlying24 Tryd.sizeOf23 (lens_dC 32) q0 q1 hv30) <| ov [500] (op_load_pp [bytesCk 32 (a_1.getD x15.toNat default)] [] Tryd.isAgg23 Tryd.sizeOf23 q0 rfl) <| ov [1] (op_move q0) <| ov [3] (op_move q0) <| ov [500] (op_bin bin_add q0 qi) <| ov [502, 500] (op_indexAddr_sl Tryd.underlying24 Tryd.sizeOf23 (lens_dC 32) q0 q1 hv31) <| ov [500] (op_load_pp [bytesCk 32 (a_1.getD (IntKind.wrap .i64 (x15 + 1)).toNat default)] [] Tryd.isAgg23 Tryd.sizeOf23 q0 rfl) <| oc [509, 505, 500] [4] Tryd.call71 (digest_Log_Two_ok hr32) ⟨q0, qi, q1, q2, trivial⟩ <| ov [501] (op_lit (xs := [.tmp 25]) (ys := [r32.1]) _ rfl Tryd.underlying24 Tryd.sizeOf23 Tryd.zeroValue23 rfl rfl (by decide) (by decide) ⟨⟨_, q0, (cells_agg _)⟩, trivial⟩ (lens_dC 32)) <| og [513, 500] [5] [.slot 27 13 100000 (fun v1_ _ => (eqVP v1_)), .res 13 100000 (fun v1_ _ => (acc (v1_) 23 32 (dC 32) (x17 ++ [r32.1])))] (GOk.plain (op_append (i := Tryd.t23) Tryd.underlying24 Tryd.type23 rfl (lens_dC 32) (by decide) rfl q0 q1 hv33) rfl) <| og [501] [2] [.slot 5 13 100000 (fun v1_ _ => (eqVP v1_))] (fun {β} => (GOk.drop _ (GOk.plain (op_assign (V := (eqVP (β 13))) q0) rfl))) .nil) fun b34 a w h => ?_
      show Code.wp Tryd.prog _ _ a w
      refine reg mixed hn hG h [0, 1, 2, 500, 4, 5] (ov [3] (op_move q0) <| ov [500] (op_bin bin_add q0 qi) <| od [500] 3 (op_assign q0) .nil) fun _ a w h => ?_
      obtain rfl := Option.some.inj hF
      exact ⟨rfl, (b34 13), h.sub [0, 1, 2, 3, 4, 5] (by rfl)⟩
    · refine wp_exit ?_
      obtain rfl := Option.some.inj hF
      exact ⟨exit_ne _, rfl, q18, h.sub [2, 4, 5] (by rfl)⟩
  · clear hl36
    intro e a w hq
    cases cr35 with
    | ret r37 =>
      obtain ⟨rfl, hq⟩ := hq
      obtain rfl := Option.some.inj hF
      exact ⟨.inl rfl, hq⟩
    | next s38 =>
      obtain ⟨y39, y40, y41⟩ := s38
      obtain ⟨rfl, q18, h⟩ := hq
      change SatL c [.slot 5 (eqVP q18), .res (Log_e p_0 y40), .res (acc q18 23 32 (dC 32) y41)] a w at h
      refine inBlock_at ?_
      show Code.wp Tryd.prog _ _ a w
      refine regS mixed hn hG h [500, 1, 2] (ov [0] (op_move q0) <| ov [500] (op_assign q0) .nil) fun _ a w h => ?_
      refine wp_ret ?_
      obtain rfl := Option.some.inj hF
      exact ⟨.inl rfl, ret1 h Tryd.results49 (r_acc 0 2 rfl rfl) [1] [(Log_e p_0 y40)] rfl rfl rfl⟩

def keys_Signer_Root.b1 (x6 : List (List UInt8)) (x7 : Option O_Log) : Option (Flow ((List UInt8) × (Option O_Log)) ((List (List UInt8)) × (Option O_Log))) := (if (decide ((1 : Int) < (x6.length : Int))) = true then ((keys_up x7 x6).bind fun r13 => some (.cont (r13.1, r13.2))) else some (.brk (x6, x7)))
def keys_Signer_Root (a_0 : S_keys_Signer) (L_1 : Option O_Log) : Option ((List UInt8) × (Option O_Log)) := (if (!decide ((a_0.f_Leaves.length : Int) = (16 : Int))) = true then some ((List.replicate 32 0), L_1) else ((loopN (fun s : (List (List UInt8)) × (Option O_Log) => keys_Signer_Root.b1 s.1 s.2) (((a_0.f_Leaves.length : Int) - 1 : Int).toNat + 2) (a_0.f_Leaves, L_1)).bind fun cr => match cr with | .ret r => some r | .next (y18, y19) => (if (0 : Int) ≤ 0 ∧ (0 : Int) < y18.length then some (y18.getD (0 : Int).toNat default, y19) else none)))
theorem keys_Signer_Root_ok {p_1 : Value} {a_0 : S_keys_Signer} {L_1 : Option O_Log} {r : (List UInt8) × (Option O_Log)} (hF : keys_Signer_Root a_0 L_1 = some r) : CallOk Tryd.prog KG 13 [(aggVP [bytesCk 32 a_0.f_Seed, one (intVP .i64 a_0.f_Next), one (slVP (dC 32) a_0.f_Leaves)]), (eqVP p_1)] [(Log_e p_1 L_1)] (fun _ => [Log_e p_1 r.2]) (aggVP [bytesCk 32 r.1]) := by
  refine CallOk.intro 22 Tryd.func13 rfl Tryd.ntmps13 (Nat.le_of_ble_eq_true rfl) ?_
  intro c a w hG hn h
  unfold keys_Signer_Root at hF
  change SatL c [.slot 0 (aggVP [bytesCk 32 a_0.f_Seed, one (intVP .i64 a_0.f_Next), one (slVP (dC 32) a_0.f_Leaves)]), .slot 1 (eqVP p_1), .res (Log_e p_1 L_1)] a w at h
  refine regS mixed hn hG h [1, 503, 501, 2, 502, 500] (ob [0] (op_box q0 (cells_agg _)) <| ob [] (op_alloc Tryd.zeroValue23 z23) .nil) fun b1 a w h => ?_
  refine wp_seq ?_
  refine regS mixed hn hG h [0, 1, 2, 500, 3, 4, 5] (ov [1] (op_fieldAddr_lbm (p := (b1 0)) (n := 1) 0 33 Tryd.underlying27 rfl Tryd.sizeOf24 (by decide) q0 rfl) <| ov [500, 4] (op_load_lb1 [bytesCk 32 a_0.f_Seed, one (intVP .i64 a_0.f_Next)] [] 1 Tryd.isAgg24 q0 rfl rfl) <| ov [500] (op_len_sl Tryd.underlying24 q0) <| ov [500] (op_bin bin_neq q0 qi) .nil) fun _ a w h => ?_
  refine cnd h hF 3 [2, 4, 6] [0, 1, 2, 4, 5, 6] (fun hb3 hF h => ?_) (fun hb3 hF h => ?_)
  · refine regS mixed hn hG h [0, 1, 500] (ov [] (build0 Tryd.zeroValue23 Tryd.underlying23 Tryd.sizeOf5 z23) <| ou [0, 500] 2 (op_store_w Tryd.sizeOf23 q0 q1 (cells_agg _)) .nil) fun _ a w h => ?_
    refine wp_ret ?_
    obtain rfl := Option.some.inj hF
    exact ⟨.inl rfl, ret1 h Tryd.results13 (r_cell 0 2 rfl rfl Tryd.isAgg23 Tryd.sizeOf23 rfl) [1] [(Log_e p_1 L_1)] rfl rfl rfl⟩
  · refine wp_skip ?_
    show Code.wp Tryd.prog _ _ a w
    refine regS mixed hn hG h [0, 2, 500, 3, 5] (ov [1] (op_fieldAddr_lbm (p := (b1 0)) (n := 1) 0 33 Tryd.underlying27 rfl Tryd.sizeOf24 (by decide) q0 rfl) <| ov [500, 4] (op_load_lb1 [bytesCk 32 a_0.f_Seed, one (intVP .i64 a_0.f_Next)] [] 1 Tryd.isAgg24 q0 rfl rfl) <| ov [500] (op_assign q0) .nil) fun _ a w h => ?_
    refine wp_seq ?_
    refine wp_block ?_
    obtain ⟨cr14, hl15, hF⟩ := bind_some hF
    refine wp_mono (wp_loopN (R := (List UInt8) × (Option O_Log)) (S := (List (List UInt8)) × (Option O_Log)) (fun s a w => SatL c [.slot 1 (eqVP p_1), .slot 4 (lpVP (b1 1) 0), .slot 5 (slVP (dC 32) s.1), .res (Log_e p_1 s.2), .res (lb (b1 1) 23 [bytesCk 32 (List.replicate 32 0)])] a w) (fun res e a w => match res with | .next s => e = .exit 0 ∧ SatL c [.slot 4 (lpVP (b1 1) 0), .slot 5 (slVP (dC 32) s.1), .res (Log_e p_1 s.2), .res (lb (b1 1) 23 [bytesCk 32 (List.replicate 32 0)])] a w | .ret r => e = .ret ∧ RetOk Tryd.prog Tryd.f13 c (aggVP [bytesCk 32 r.1]) (fun _ => [Log_e p_1 r.2]) a w) ?_ _ (a_0.f_Leaves, L_1) _ _ _ (h.sub [0, 1, 2, 3, 4] (by rfl)) hl15) ?_
    · clear hl15 hF h
      intro s a w o h hF
      obtain ⟨x6, x7⟩ := s
      change keys_Signer_Root.b1 x6 x7 = some o at hF
      unfold keys_Signer_Root.b1 at hF
      change SatL c [.slot 1 (eqVP p_1), .slot 4 (lpVP (b1 1) 0), .slot 5 (slVP (dC 32) x6), .res (Log_e p_1 x7), .res (lb (b1 1) 23 [bytesCk 32 (List.replicate 32 0)])] a w at h
      refine wp_seq ?_
      refine regS mixed hn hG h [0, 1, 2, 500, 3, 4] (ov [2] (op_move q0) <| ov [500] (op_len_sl Tryd.underlying24 q0) <| ov [500] (op_bin bin_gtr q0 qi) .nil) fun _ a w h => ?_
      refine cnd h hF 3 [0, 1, 2, 4, 5] [0, 1, 2, 4, 5] (fun hb12 hF h => ?_) (fun hb12 hF h => ?_)
      · refine wp_skip ?_
        show Code.wp Tryd.prog _ _ a w
        refine wp_block ?_
        obtain ⟨r13, hr13, hF⟩ := bind_some hF
        refine reg mixed hn hG h [0, 1, 500, 4, 501] (ov [0] (op_move q0) <| ov [2] (op_move q0) <| oc [501, 500] [3] Tryd.call49 (keys_up_ok hr13) ⟨q0, q1, trivial⟩ <| od [501] 2 (op_assign q0) .nil) fun _ a w h => ?_
        obtain rfl := Option.some.inj hF
        exact ⟨rfl, h.sub [0, 1, 2, 4, 3] (by rfl)⟩
      · refine wp_exit ?_
        obtain rfl := Option.some.inj hF
        exact ⟨exit_ne _, rfl, h.sub [1, 2, 3, 4] (by rfl)⟩
    · clear hl15
      intro e a w hq
      cases cr14 with
      | ret r16 =>
        obtain ⟨rfl, hq⟩ := hq
        obtain rfl := Option.some.inj hF
        exact ⟨.inl rfl, hq⟩
      | next s17 =>
        obtain ⟨y18, y19⟩ := s17
        obtain ⟨rfl, h⟩ := hq
        change SatL c [.slot 4 (lpVP (b1 1) 0), .slot 5 (slVP (dC 32) y18), .res (Log_e p_1 y19), .res (lb (b1 1) 23 [bytesCk 32 (List.replicate 32 0)])] a w at h
        refine inBlock_at ?_
        show Code.wp Tryd.prog _ _ a w
        obtain ⟨hv20, hF⟩ := ite_some hF
        refine regS mixed hn hG h [0, 2, 500] (ov [1] (op_move q0) <| ov [500] (op_indexAddr_sl Tryd.underlying24 Tryd.sizeOf23 (lens_dC 32) q0 qi hv20) <| ov [500] (op_load_pp [bytesCk 32 (y18.getD (0 : Int).toNat default)] [] Tryd.isAgg23 Tryd.sizeOf23 q0 rfl) <| ou [0, 500] 3 (op_store_w Tryd.sizeOf23 q0 q1 (cells_agg _)) .nil) fun _ a w h => ?_
        refine wp_ret ?_
        obtain rfl := Option.some.inj hF
        exact ⟨.inl rfl, ret1 h Tryd.results13 (r_cell 0 2 rfl rfl Tryd.isAgg23 Tryd.sizeOf23 rfl) [1] [(Log_e p_1 y19)] rfl rfl rfl⟩

def lamport_Bit.j1 (a_0 : List UInt8) (a_1 : Int) (x2 : Bool) : Option Int := (if x2 = true then some 0 else (if (0 : Int) ≤ IntKind.wrap .i64 (a_1.tdiv 8) ∧ IntKind.wrap .i64 (a_1.tdiv 8) < 32 then (if (0 : Int) ≤ IntKind.wrap .i64 (7 - (a_1.tmod 8)) then some (bits .and .i64 (IntKind.wrap .i64 (shr .u8 ((a_0.getD (IntKind.wrap .i64 (a_1.tdiv 8)).toNat 0).toNat) (IntKind.wrap .i64 (7 - (a_1.tmod 8))))) 1) else none) else none))
def lamport_Bit (a_0 : List UInt8) (a_1 : Int) : Option Int := (if (decide (a_1 < (0 : Int))) = true then lamport_Bit.j1 a_0 a_1 true else lamport_Bit.j1 a_0 a_1 (decide ((256 : Int) ≤ a_1)))
theorem lamport_Bit_ok {a_0 : List UInt8} {a_1 : Int} {r : Int} (hF : lamport_Bit a_0 a_1 = some r) : CallOk Tryd.prog KG 72 [(aggVP [bytesCk 32 a_0]), (intVP .i64 a_1)] [] (fun _ => []) (intVP .i64 r) := by
  refine CallOk.intro 21 Tryd.func72 rfl Tryd.ntmps72 (Nat.le_of_ble_eq_true rfl) ?_
  intro c a w hG hn h
  unfold lamport_Bit at hF
  change SatL c [.slot 0 (aggVP [bytesCk 32 a_0]), .slot 1 (intVP .i64 a_1)] a w at h
  refine regS mixed hn hG h [1, 502, 501] (ob [0] (op_box q0 (cells_agg _)) <| ov [] (op_assign qi) .nil) fun b1 a w h => ?_
  refine wp_seq ?_
  refine wp_seq ?_
  refine wp_cut (fun a w => ∃ (x2 : Bool), lamport_Bit.j1 a_0 a_1 x2 = some r ∧ SatL c [.slot 1 (intVP .i64 a_1), .slot 2 (lpVP (b1 0) 0), .slot 10 (boolVP x2), .res (lb (b1 0) 23 [bytesCk 32 a_0])] a w) ?_ ?_
  · rcases Bool.eq_false_or_eq_true (decide (a_1 < (0 : Int))) with hb6 | hb6
    · replace hF := tt_of hb6 hF
      refine reg mixed hn hG h [0, 1, 500, 2] (ov [0] (op_move q0) <| ov [500] (op_bin bin_lss q0 qi) <| ov [500] (op_move q0) <| oe [500] [] (GOk.off_v (want := false) hb6 rfl rfl rfl rfl) <| oe [501] [] (GOk.off_v (want := false) hb6 rfl rfl rfl rfl) <| ov [502] (op_pick_t hb6 q0 qb) .nil) fun _ a w h => ?_
      exact ⟨true, hF, h.sub [0, 1, 2, 3] (by rfl)⟩
    · replace hF := ff_of hb6 hF
      refine reg mixed hn hG h [0, 1, 500, 2] (ov [0] (op_move q0) <| ov [500] (op_bin bin_lss q0 qi) <| ov [500] (op_move q0) <| oe [500, 0] [] (GOk.on_eq hb6 rfl rfl rfl (op_move q0)) <| oe [501, 500] [] (GOk.on_eq hb6 rfl rfl rfl (op_bin bin_geq q0 qi)) <| ov [502, 500] (op_pick_f hb6 q0 q1) .nil) fun _ a w h => ?_
      exact ⟨decide ((256 : Int) ≤ a_1), hF, h.sub [0, 1, 2, 3] (by rfl)⟩
  · clear h hF
    rintro a w ⟨x2, hF, h⟩
    unfold lamport_Bit.j1 at hF
    show Code.wp Tryd.prog _ _ a w
    refine cnd h hF 2 [] [0, 1, 3] (fun hb3 hF h => ?_) (fun hb3 hF h => ?_)
    · refine regS mixed hn hG h [500] (ov [] (op_assign qi) .nil) fun _ a w h => ?_
      refine wp_ret ?_
      obtain rfl := Option.some.inj hF
      exact ⟨.inl rfl, ret1 h Tryd.results72 (r_tmp 0 rfl) [] [] rfl rfl rfl⟩
    · refine wp_skip ?_
      show Code.wp Tryd.prog _ _ a w
      obtain ⟨hv4, hF⟩ := ite_some hF
      obtain ⟨hv5, hF⟩ := ite_some hF
      refine regS mixed hn hG h [500] (ov [0] (op_move q0) <| ov [500] (op_bin (bin_quo (by decide)) q0 qi) <| ov [1, 500] (op_indexAddr_lb Tryd.underlying23 Tryd.sizeOf5 q0 q1 hv4) <| ov [500, 2] (op_load_lbB (i := IntKind.wrap .i64 (a_1.tdiv 8)) [] [] 1 Tryd.isAgg5 q0 rfl rfl hv4) <| ov [0] (op_move q0) <| ov [500] (op_bin (bin_rem (by decide)) q0 qi) <| ov [500] (op_bin bin_sub qi q0) <| ov [503, 500] (op_bin (bin_shr hv5) q0 q1) <| ov [500] (op_convert_int Tryd.underlying5 Tryd.underlying3 q0) <| ov [500] (op_bin bin_and q0 qi) <| ov [500] (op_assign q0) .nil) fun _ a w h => ?_
      refine wp_ret ?_
      obtain rfl := Option.some.inj hF
      exact ⟨.inl rfl, ret1 h Tryd.results72 (r_tmp 0 rfl) [] [] rfl rfl rfl⟩

def lamport_Sign.b1 (a_1 : List UInt8) (a_2 : Int) (a_3 : List UInt8) (x25 : Int) (x26 : Option O_Log) (x27 : List (List UInt8)) (x29 : List (List UInt8)) : Option (Flow ((List (List UInt8)) × (List (List UInt8)) × (Option O_Log)) (Int × (Option O_Log) × (List (List UInt8)) × (List (List UInt8)))) := (if (decide (x25 < (32 : Int))) = true then ((lamport_Bit a_3 x25).bind fun r47 => ((lamport_Secret x26 a_1 a_2 x25 r47).bind fun r48 => (if x27.length + [r48.1].length ≤ mxl ∧ (x27.length + [r48.1].length) * 32 ≤ 140737488355328 then ((lamport_Secret r48.2 a_1 a_2 x25 (IntKind.wrap .i64 (1 - r47))).bind fun r51 => ((lamport_Public r51.2 r51.1).bind fun r52 => (if x29.length + [r52.1].length ≤ mxl ∧ (x29.length + [r52.1].length) * 32 ≤ 140737488355328 then some (.cont (IntKind.wrap .i64 (x25 + 1), r52.2, x27 ++ [r48.1], x29 ++ [r52.1])) else none))) else none))) else some (.brk (x25, x26, x27, x29)))
def lamport_Sign (L_0 : Option O_Log) (a_1 : List UInt8) (a_2 : Int) (a_3 : List UInt8) : Option ((List (List UInt8)) × (List (List UInt8)) × (Option O_Log)) := ((loopN (fun s : Int × (Option O_Log) × (List (List UInt8)) × (List (List UInt8)) => lamport_Sign.b1 a_1 a_2 a_3 s.1 s.2.1 s.2.2.1 s.2.2.2) ((32 - 0 : Int).toNat + 2) (0, L_0, [], [])).bind fun cr => match cr with | .ret r => some r | .next (y59, y60, y61, y62) => some (y61, y62, y60))
theorem lamport_Sign_ok {p_0 : Value} {L_0 : Option O_Log} {a_1 : List UInt8} {a_2 : Int} {a_3 : List UInt8} {r : (List (List UInt8)) × (List (List UInt8)) × (Option O_Log)} (hF : lamport_Sign L_0 a_1 a_2 a_3 = some r) : CallOk Tryd.prog KG 51 [(eqVP p_0), (aggVP [bytesCk 32 a_1]), (intVP .i64 a_2), (aggVP [bytesCk 32 a_3])] [(Log_e p_0 L_0)] (fun _ => [Log_e p_0 r.2.2]) (tupVP [(slVP (dC 32) r.1), (slVP (dC 32) r.2.1)]) := by
  refine CallOk.intro 44 Tryd.func51 rfl Tryd.ntmps51 (Nat.le_of_ble_eq_true rfl) ?_
  intro c a w hG hn h
  unfold lamport_Sign at hF
  change SatL c [.slot 0 (eqVP p_0), .slot 1 (aggVP [bytesCk 32 a_1]), .slot 2 (intVP .i64 a_2), .slot 3 (aggVP [bytesCk 32 a_3]), .res (Log_e p_0 L_0)] a w at h
  refine regS mixed hn hG h [0, 2, 505, 503, 4, 504, 502] (ob [1] (op_box q0 (cells_agg _)) <| ob [3] (op_box q0 (cells_agg _)) <| ov [] (op_assign (opc (ec _))) <| ov [] (op_assign (opc (ec _))) .nil) fun b1 a w h => ?_
  refine regS mixed hn hG h [0, 1, 2, 3, 501, 500, 4, 5, 6] (ov [] (op_assign (opc (ec _))) <| ov [] (op_assign (opc (ec _))) .nil) fun _ a w h => ?_
  refine wp_seq ?_
  refine regS mixed hn hG h [0, 1, 2, 3, 4, 5, 500, 6, 7, 8] (ov [] (op_move qi) .nil) fun _ a w h => ?_
  refine wp_block ?_
  obtain ⟨q14, h⟩ : ∃ q14 : Value, SatL c [.slot 0 (eqVP p_0), .slot 2 (intVP .i64 a_2), .slot 5 (lpVP (b1 0) 0), .slot 7 (lpVP (b1 1) 0), .slot 10 (eqVP q14), .slot 11 (eqVP (.slice none 0 0)), .slot 14 (intVP .i64 0), .res (Log_e p_0 L_0), .res (lb (b1 0) 23 [bytesCk 32 a_1]), .res (lb (b1 1) 23 [bytesCk 32 a_3]), .res (acc q14 23 32 (dC 32) [])] a w := ⟨.slice none 0 0, (h.nilacc 23 32 (dC 32)).sub [0, 1, 2, 3, 4, 5, 6, 7, 8, 9, 10] (by rfl)⟩
  obtain ⟨q15, h⟩ : ∃ q15 : Value, SatL c [.slot 0 (eqVP p_0), .slot 2 (intVP .i64 a_2), .slot 5 (lpVP (b1 0) 0), .slot 7 (lpVP (b1 1) 0), .slot 10 (eqVP q14), .slot 11 (eqVP q15), .slot 14 (intVP .i64 0), .res (Log_e p_0 L_0), .res (lb (b1 0) 23 [bytesCk 32 a_1]), .res (lb (b1 1) 23 [bytesCk 32 a_3]), .res (acc q14 23 32 (dC 32) []), .res (acc q15 23 32 (dC 32) [])] a w := ⟨.slice none 0 0, (h.nilacc 23 32 (dC 32)).sub [0, 1, 2, 3, 4, 5, 6, 7, 8, 9, 10, 11] (by rfl)⟩
  obtain ⟨cr55, hl56, hF⟩ := bind_some hF
  refine wp_mono (wp_loopN (R := (List (List UInt8)) × (List (List UInt8)) × (Option O_Log)) (S := Int × (Option O_Log) × (List (List UInt8)) × (List (List UInt8))) (fun s a w => ∃ q28 : Value, ∃ q30 : Value, SatL c [.slot 0 (eqVP p_0), .slot 2 (intVP .i64 a_2), .slot 5 (lpVP (b1 0) 0), .slot 7 (lpVP (b1 1) 0), .slot 10 (eqVP q28), .slot 11 (eqVP q30), .slot 14 (intVP .i64 s.1), .res (Log_e p_0 s.2.1), .res (lb (b1 0) 23 [bytesCk 32 a_1]), .res (lb (b1 1) 23 [bytesCk 32 a_3]), .res (acc q28 23 32 (dC 32) s.2.2.1), .res (acc q30 23 32 (dC 32) s.2.2.2)] a w) (fun res e a w => match res with | .next s => e = .exit 0 ∧ ∃ q28 : Value, ∃ q30 : Value, SatL c [.slot 10 (eqVP q28), .slot 11 (eqVP q30), .res (Log_e p_0 s.2.1), .res (acc q28 23 32 (dC 32) s.2.2.1), .res (acc q30 23 32 (dC 32) s.2.2.2)] a w | .ret r => e = .ret ∧ RetOk Tryd.prog Tryd.f51 c (tupVP [(slVP (dC 32) r.1), (slVP (dC 32) r.2.1)]) (fun _ => [Log_e p_0 r.2.2]) a w) ?_ _ (0, L_0, [], []) _ _ _ ⟨q14, q15, (h.sub [0, 1, 2, 3, 4, 5, 6, 7, 8, 9, 10, 11] (by rfl))⟩ hl56) ?_
  · clear hl56 hF h
    intro s a w o h hF
    obtain ⟨x25, x26, x27, x29⟩ := s
    obtain ⟨q28, q30, h⟩ := h
    change lamport_Sign.b1 a_1 a_2 a_3 x25 x26 x27 x29 = some o at hF
    unfold lamport_Sign.b1 at hF
    change SatL c [.slot 0 (eqVP p_0), .slot 2 (intVP .i64 a_2), .slot 5 (lpVP (b1 0) 0), .slot 7 (lpVP (b1 1) 0), .slot 10 (eqVP q28), .slot 11 (eqVP q30), .slot 14 (intVP .i64 x25), .res (Log_e p_0 x26), .res (lb (b1 0) 23 [bytesCk 32 a_1]), .res (lb (b1 1) 23 [bytesCk 32 a_3]), .res (acc q28 23 32 (dC 32) x27), .res (acc q30 23 32 (dC 32) x29)] a w at h
    refine regS mixed hn hG h [0, 1, 2, 3, 4, 5, 6, 500, 7, 8, 9, 10, 11] (ov [6] (op_bin bin_lss q0 qi) .nil) fun _ a w h => ?_
    refine wp_seq ?_
    refine cnd h hF 7 [0, 1, 2, 3, 4, 5, 6, 8, 9, 10, 11, 12] [0, 1, 2, 3, 4, 5, 6, 8, 9, 10, 11, 12] (fun hb46 hF h => ?_) (fun hb46 hF h => ?_)
    · refine wp_skip ?_
      show Code.wp Tryd.prog _ _ a w
      refine wp_seq ?_
      refine wp_block ?_
      refine regS mixed hn hG h [0, 1, 2, 3, 4, 5, 500, 6, 7, 8, 9, 10, 11] (ov [6] (op_move q0) <| ov [500] (op_assign q0) .nil) fun _ a w h => ?_
      obtain ⟨r47, hr47, hF⟩ := bind_some hF
      refine regS mixed hn hG h [0, 1, 2, 3, 4, 5, 6, 500, 7, 8, 9, 10, 11, 12] (ov [3, 10] (op_load_w 1 Tryd.isAgg23 Tryd.sizeOf23 q0) <| ov [6] (op_move q0) <| oc [501, 500] [] Tryd.call72 (lamport_Bit_ok hr47) ⟨q0, q1, trivial⟩ <| ov [500] (op_assign q0) .nil) fun _ a w h => ?_
      obtain ⟨r48, hr48, hF⟩ := bind_some hF
      obtain ⟨hv49, hF⟩ := ite_some hF
      refine regS mixed hn hG h [0, 1, 2, 3, 500, 5, 6, 7, 8, 10, 11, 13, 504, 501] (ov [4] (op_move q0) <| ov [0] (op_move q0) <| ov [2, 10] (op_load_w 1 Tryd.isAgg23 Tryd.sizeOf23 q0) <| ov [1] (op_move q0) <| ov [6] (op_move q0) <| ov [7] (op_move q0) <| oc [504, 503, 502, 501, 500] [9] Tryd.call69 (lamport_Secret_ok hr48) ⟨q0, q1, q2, q3, (opt 4 rfl), trivial⟩ <| ov [501] (op_lit (xs := [.tmp 26]) (ys := [r48.1]) _ rfl Tryd.underlying24 Tryd.sizeOf23 Tryd.zeroValue23 rfl rfl (by decide) (by decide) ⟨⟨_, q0, (cells_agg _)⟩, trivial⟩ (lens_dC 32)) <| og [508, 500] [12] [.slot 28 8 100000 (fun v1_ _ => (eqVP v1_)), .res 8 100000 (fun v1_ _ => (acc (v1_) 23 32 (dC 32) (x27 ++ [r48.1])))] (GOk.plain (op_append (i := Tryd.t23) Tryd.underlying24 Tryd.type23 rfl (lens_dC 32) (by decide) rfl q0 q1 hv49) rfl) <| og [501] [4] [.slot 10 8 100000 (fun v1_ _ => (eqVP v1_))] (fun {β} => (GOk.drop _ (GOk.plain (op_assign (V := (eqVP (β 8))) q0) rfl))) .nil) fun b50 a w h => ?_
      obtain ⟨r51, hr51, hF⟩ := bind_some hF
      obtain ⟨r52, hr52, hF⟩ := bind_some hF
      obtain ⟨hv53, hF⟩ := ite_some hF
      refine reg mixed hn hG h [0, 1, 2, 3, 4, 500, 8, 9, 10, 13, 504, 501] (ov [5] (op_move q0) <| ov [0] (op_move q0) <| ov [0] (op_move q0) <| ov [2, 9] (op_load_w 1 Tryd.isAgg23 Tryd.sizeOf23 q0) <| ov [1] (op_move q0) <| ov [6] (op_move q0) <| ov [7] (op_move q0) <| ov [500] (op_bin bin_sub qi q0) <| oc [505, 504, 503, 502, 500] [12] Tryd.call69 (lamport_Secret_ok hr51) ⟨q0, q1, q2, q3, (opt 4 rfl), trivial⟩ <| oc [508, 501] [500] Tryd.call68 (lamport_Public_ok hr52) ⟨q0, q1, trivial⟩ <| ov [501] (op_lit (xs := [.tmp 38]) (ys := [r52.1]) _ rfl Tryd.underlying24 Tryd.sizeOf23 Tryd.zeroValue23 rfl rfl (by decide) (by decide) ⟨⟨_, q0, (cells_agg _)⟩, trivial⟩ (lens_dC 32)) <| og [512, 500] [11] [.slot 40 11 100000 (fun v1_ _ => (eqVP v1_)), .res 11 100000 (fun v1_ _ => (acc (v1_) 23 32 (dC 32) (x29 ++ [r52.1])))] (GOk.plain (op_append (i := Tryd.t23) Tryd.underlying24 Tryd.type23 rfl (lens_dC 32) (by decide) rfl q0 q1 hv53) rfl) <| og [501] [5] [.slot 11 11 100000 (fun v1_ _ => (eqVP v1_))] (fun {β} => (GOk.drop _ (GOk.plain (op_assign (V := (eqVP (β 11))) q0) rfl))) .nil) fun b54 a w h => ?_
      show Code.wp Tryd.prog _ _ a w
      refine reg mixed hn hG h [0, 1, 2, 3, 4, 5, 500, 7, 8, 9, 10, 11] (ov [6] (op_bin bin_add q0 qi) <| od [500] 6 (op_move q0) .nil) fun _ a w h => ?_
      obtain rfl := Option.some.inj hF
      exact ⟨rfl, (b50 8), (b54 11), h.sub [0, 1, 2, 3, 4, 5, 6, 10, 7, 8, 9, 11] (by rfl)⟩
    · refine wp_exit ?_
      obtain rfl := Option.some.inj hF
      exact ⟨exit_ne _, rfl, q28, q30, h.sub [4, 5, 7, 10, 11] (by rfl)⟩
  · clear hl56
    intro e a w hq
    cases cr55 with
    | ret r57 =>
      obtain ⟨rfl, hq⟩ := hq
      obtain rfl := Option.some.inj hF
      exact ⟨.inl rfl, hq⟩
    | next s58 =>
      obtain ⟨y59, y60, y61, y62⟩ := s58
      obtain ⟨rfl, q28, q30, h⟩ := hq
      change SatL c [.slot 10 (eqVP q28), .slot 11 (eqVP q30), .res (Log_e p_0 y60), .res (acc q28 23 32 (dC 32) y61), .res (acc q30 23 32 (dC 32) y62)] a w at h
      refine inBlock_at ?_
      show Code.wp Tryd.prog _ _ a w
      refine regS mixed hn hG h [501, 500, 2, 3, 4] (ov [0] (op_move q0) <| ov [1] (op_move q0) <| ov [501] (op_assign q0) <| ov [501] (op_assign q0) .nil) fun _ a w h => ?_
      refine wp_ret ?_
      obtain rfl := Option.some.inj hF
      exact ⟨.inl rfl, retn h (rs := [.tmp 8, .tmp 9]) (Vs := [(slVP (dC 32) y61), (slVP (dC 32) y62)]) Tryd.results51 (by decide) ⟨(r_acc 0 3 rfl rfl), (r_acc 1 4 rfl rfl), trivial⟩ [2] [(Log_e p_0 y60)] rfl rfl rfl⟩

def keys_Signer_path.b1 (x14 : Int) (x15 : List (List UInt8)) (x16 : Option O_Log) (x17 : List (List UInt8)) : Option (Flow ((List (List UInt8)) × (Option O_Log)) (Int × (List (List UInt8)) × (Option O_Log) × (List (List UInt8)))) := (if (decide ((1 : Int) < (x15.length : Int))) = true then (if (0 : Int) ≤ bits .xor .i64 x14 1 ∧ bits .xor .i64 x14 1 < x15.length then (if x17.length + [x15.getD (bits .xor .i64 x14 1).toNat default].length ≤ mxl ∧ (x17.length + [x15.getD (bits .xor .i64 x14 1).toNat default].length) * 32 ≤ 140737488355328 then ((keys_up x16 x15).bind fun r33 => some (.cont (IntKind.wrap .i64 (x14.tdiv 2), r33.1, r33.2, x17 ++ [x15.getD (bits .xor .i64 x14 1).toNat default]))) else none) else none) else some (.brk (x14, x15, x16, x17)))
def keys_Signer_path (a_0 : S_keys_Signer) (L_1 : Option O_Log) (a_2 : Int) : Option ((List (List UInt8)) × (Option O_Log)) := ((loopN (fun s : Int × (List (List UInt8)) × (Option O_Log) × (List (List UInt8)) => keys_Signer_path.b1 s.1 s.2.1 s.2.2.1 s.2.2.2) (((a_0.f_Leaves.length : Int) - 1 : Int).toNat + 2) (a_2, a_0.f_Leaves, L_1, [])).bind fun cr => match cr with | .ret r => some r | .next (y38, y39, y40, y41) => some (y41, y40))
theorem keys_Signer_path_ok {p_1 : Value} {a_0 : S_keys_Signer} {L_1 : Option O_Log} {a_2 : Int} {r : (List (List UInt8)) × (Option O_Log)} (hF : keys_Signer_path a_0 L_1 a_2 = some r) : CallOk Tryd.prog KG 52 [(aggVP [bytesCk 32 a_0.f_Seed, one (intVP .i64 a_0.f_Next), one (slVP (dC 32) a_0.f_Leaves)]), (eqVP p_1), (intVP .i64 a_2)] [(Log_e p_1 L_1)] (fun _ => [Log_e p_1 r.2]) (slVP (dC 32) r.1) := by
  refine CallOk.intro 28 Tryd.func52 rfl Tryd.ntmps52 (Nat.le_of_ble_eq_true rfl) ?_
  intro c a w hG hn h
  unfold keys_Signer_path at hF
  change SatL c [.slot 0 (aggVP [bytesCk 32 a_0.f_Seed, one (intVP .i64 a_0.f_Next), one (slVP (dC 32) a_0.f_Leaves)]), .slot 1 (eqVP p_1), .slot 2 (intVP .i64 a_2), .res (Log_e p_1 L_1)] a w at h
  refine regS mixed hn hG h [1, 2, 502, 3, 501] (ob [0] (op_box q0 (cells_agg _)) <| ov [] (op_assign (opc (ec _))) .nil) fun b1 a w h => ?_
  refine regS mixed hn hG h [0, 1, 2, 500, 3, 4] (ov [] (op_assign (opc (ec _))) .nil) fun _ a w h => ?_
  refine regS mixed hn hG h [0, 1, 3, 500, 4] (ov [2] (op_fieldAddr_lbm (p := (b1 0)) (n := 1) 0 33 Tryd.underlying27 rfl Tryd.sizeOf24 (by decide) q0 rfl) <| ov [500, 5] (op_load_lb1 [bytesCk 32 a_0.f_Seed, one (intVP .i64 a_0.f_Next)] [] 1 Tryd.isAgg24 q0 rfl rfl) <| ov [500] (op_assign q0) .nil) fun _ a w h => ?_
  refine wp_seq ?_
  refine wp_block ?_
  obtain ⟨q8, h⟩ : ∃ q8 : Value, SatL c [.slot 1 (eqVP p_1), .slot 2 (intVP .i64 a_2), .slot 7 (eqVP q8), .slot 8 (slVP (dC 32) a_0.f_Leaves), .res (Log_e p_1 L_1), .res (acc q8 23 32 (dC 32) [])] a w := ⟨.slice none 0 0, (h.nilacc 23 32 (dC 32)).sub [0, 1, 2, 3, 4, 5] (by rfl)⟩
  obtain ⟨cr34, hl35, hF⟩ := bind_some hF
  refine wp_mono (wp_loopN (R := (List (List UInt8)) × (Option O_Log)) (S := Int × (List (List UInt8)) × (Option O_Log) × (List (List UInt8))) (fun s a w => ∃ q18 : Value, SatL c [.slot 1 (eqVP p_1), .slot 2 (intVP .i64 s.1), .slot 7 (eqVP q18), .slot 8 (slVP (dC 32) s.2.1), .res (Log_e p_1 s.2.2.1), .res (acc q18 23 32 (dC 32) s.2.2.2)] a w) (fun res e a w => match res with | .next s => e = .exit 0 ∧ ∃ q18 : Value, SatL c [.slot 7 (eqVP q18), .res (Log_e p_1 s.2.2.1), .res (acc q18 23 32 (dC 32) s.2.2.2)] a w | .ret r => e = .ret ∧ RetOk Tryd.prog Tryd.f52 c (slVP (dC 32) r.1) (fun _ => [Log_e p_1 r.2]) a w) ?_ _ (a_2, a_0.f_Leaves, L_1, []) _ _ _ ⟨q8, (h.sub [0, 1, 2, 3, 4, 5] (by rfl))⟩ hl35) ?_
  · clear hl35 hF h
    intro s a w o h hF
    obtain ⟨x14, x15, x16, x17⟩ := s
    obtain ⟨q18, h⟩ := h
    change keys_Signer_path.b1 x14 x15 x16 x17 = some o at hF
    unfold keys_Signer_path.b1 at hF
    change SatL c [.slot 1 (eqVP p_1), .slot 2 (intVP .i64 x14), .slot 7 (eqVP q18), .slot 8 (slVP (dC 32) x15), .res (Log_e p_1 x16), .res (acc q18 23 32 (dC 32) x17)] a w at h
    refine wp_seq ?_
    refine regS mixed hn hG h [0, 1, 2, 3, 500, 4, 5] (ov [3] (op_move q0) <| ov [500] (op_len_sl Tryd.underlying24 q0) <| ov [500] (op_bin bin_gtr q0 qi) .nil) fun _ a w h => ?_
    refine cnd h hF 4 [0, 1, 2, 3, 5, 6] [0, 1, 2, 3, 5, 6] (fun hb29 hF h => ?_) (fun hb29 hF h => ?_)
    · refine wp_skip ?_
      show Code.wp Tryd.prog _ _ a w
      refine wp_block ?_
      obtain ⟨hv30, hF⟩ := ite_some hF
      obtain ⟨hv31, hF⟩ := ite_some hF
      refine regS mixed hn hG h [0, 1, 500, 3, 4, 501] (ov [2] (op_move q0) <| ov [3] (op_move q0) <| ov [1] (op_move q0) <| ov [500] (op_bin bin_xor q0 qi) <| ov [502, 500] (op_indexAddr_sl Tryd.underlying24 Tryd.sizeOf23 (lens_dC 32) q0 q1 hv30) <| ov [500] (op_load_pp [bytesCk 32 (x15.getD (bits .xor .i64 x14 1).toNat default)] [] Tryd.isAgg23 Tryd.sizeOf23 q0 rfl) <| ov [500] (op_lit (xs := [.tmp 19]) (ys := [x15.getD (bits .xor .i64 x14 1).toNat default]) _ rfl Tryd.underlying24 Tryd.sizeOf23 Tryd.zeroValue23 rfl rfl (by decide) (by decide) ⟨⟨_, q0, (cells_agg _)⟩, trivial⟩ (lens_dC 32)) <| og [506, 500] [5] [.slot 21 7 100000 (fun v1_ _ => (eqVP v1_)), .res 7 100000 (fun v1_ _ => (acc (v1_) 23 32 (dC 32) (x17 ++ [x15.getD (bits .xor .i64 x14 1).toNat default])))] (GOk.plain (op_append (i := Tryd.t23) Tryd.underlying24 Tryd.type23 rfl (lens_dC 32) (by decide) rfl q0 q1 hv31) rfl) <| og [501] [2] [.slot 7 7 100000 (fun v1_ _ => (eqVP v1_))] (fun {β} => (GOk.drop _ (GOk.plain (op_assign (V := (eqVP (β 7))) q0) rfl))) .nil) fun b32 a w h => ?_
      obtain ⟨r33, hr33, hF⟩ := bind_some hF
      refine reg mixed hn hG h [0, 500, 2, 501, 5, 504] (ov [0] (op_move q0) <| ov [3] (op_move q0) <| oc [501, 500] [4] Tryd.call49 (keys_up_ok hr33) ⟨q0, q1, trivial⟩ <| ov [1] (op_move q0) <| ov [500] (op_bin (bin_quo (by decide)) q0 qi) <| od [503] 3 (op_assign q0) <| od [501] 1 (op_assign q0) .nil) fun _ a w h => ?_
      obtain rfl := Option.some.inj hF
      exact ⟨rfl, (b32 7), h.sub [0, 1, 2, 3, 5, 4] (by rfl)⟩
    · refine wp_exit ?_
      obtain rfl := Option.some.inj hF
      exact ⟨exit_ne _, rfl, q18, h.sub [2, 4, 5] (by rfl)⟩
  · clear hl35
    intro e a w hq
    cases cr34 with
    | ret r36 =>
      obtain ⟨rfl, hq⟩ := hq
      obtain rfl := Option.some.inj hF
      exact ⟨.inl rfl, hq⟩
    | next s37 =>
      obtain ⟨y38, y39, y40, y41⟩ := s37
      obtain ⟨rfl, q18, h⟩ := hq
      change SatL c [.slot 7 (eqVP q18), .res (Log_e p_1 y40), .res (acc q18 23 32 (dC 32) y41)] a w at h
      refine inBlock_at ?_
      show Code.wp Tryd.prog _ _ a w
      refine regS mixed hn hG h [500, 1, 2] (ov [0] (op_move q0) <| ov [500] (op_assign q0) .nil) fun _ a w h => ?_
      refine wp_ret ?_
      obtain rfl := Option.some.inj hF
      exact ⟨.inl rfl, ret1 h Tryd.results52 (r_acc 0 2 rfl rfl) [1] [(Log_e p_1 y40)] rfl rfl rfl⟩

def keys_Signer_Again.j1 (a_0 : S_keys_Signer) (L_1 : Option O_Log) (a_2 : Int) (a_3 : List UInt8) (x4 : Bool) : Option (S_api_Sig × Int × (Option O_Log)) := (if x4 = true then some ((S_api_Sig.mk (0 : Int) [] [] []), 2, L_1) else ((lamport_Sign L_1 a_0.f_Seed a_2 a_3).bind fun r6 => ((keys_Signer_path a_0 r6.2.2 a_2).bind fun r7 => some ((S_api_Sig.mk a_2 r6.1 r6.2.1 r7.1), 0, r7.2))))
def keys_Signer_Again (a_0 : S_keys_Signer) (L_1 : Option O_Log) (a_2 : Int) (a_3 : List UInt8) : Option (S_api_Sig × Int × (Option O_Log)) := (if (!decide ((a_0.f_Leaves.length : Int) = (16 : Int))) = true then keys_Signer_Again.j1 a_0 L_1 a_2 a_3 true else (if (decide (a_2 < (0 : Int))) = true then keys_Signer_Again.j1 a_0 L_1 a_2 a_3 true else keys_Signer_Again.j1 a_0 L_1 a_2 a_3 (decide ((16 : Int) ≤ a_2))))
theorem keys_Signer_Again_ok {p_1 : Value} {a_0 : S_keys_Signer} {L_1 : Option O_Log} {a_2 : Int} {a_3 : List UInt8} {r : S_api_Sig × Int × (Option O_Log)} (hF : keys_Signer_Again a_0 L_1 a_2 a_3 = some r) : CallOk Tryd.prog KG 16 [(aggVP [bytesCk 32 a_0.f_Seed, one (intVP .i64 a_0.f_Next), one (slVP (dC 32) a_0.f_Leaves)]), (eqVP p_1), (intVP .i64 a_2), (aggVP [bytesCk 32 a_3])] [(Log_e p_1 L_1)] (fun _ => [Log_e p_1 r.2.2]) (tupVP [(aggVP [one (intVP .i64 r.1.f_Index), one (slVP (dC 32) r.1.f_Parts), one (slVP (dC 32) r.1.f_Others), one (slVP (dC 32) r.1.f_Path)]), (intVP .i64 r.2.1)]) := by
  refine CallOk.intro 42 Tryd.func16 rfl Tryd.ntmps16 (Nat.le_of_ble_eq_true rfl) ?_
  intro c a w hG hn h
  unfold keys_Signer_Again at hF
  change SatL c [.slot 0 (aggVP [bytesCk 32 a_0.f_Seed, one (intVP .i64 a_0.f_Next), one (slVP (dC 32) a_0.f_Leaves)]), .slot 1 (eqVP p_1), .slot 2 (intVP .i64 a_2), .slot 3 (aggVP [bytesCk 32 a_3]), .res (Log_e p_1 L_1)] a w at h
  refine regS mixed hn hG h [1, 2, 506, 504, 502, 4, 505, 503, 501] (ob [0] (op_box q0 (cells_agg _)) <| ob [3] (op_box q0 (cells_agg _)) <| ob [] (op_alloc Tryd.zeroValue31 z31) <| ov [] (op_assign qi) .nil) fun b1 a w h => ?_
  refine wp_seq ?_
  refine wp_seq ?_
  refine wp_cut (fun a w => ∃ (x4 : Bool), keys_Signer_Again.j1 a_0 L_1 a_2 a_3 x4 = some r ∧ SatL c [.slot 1 (eqVP p_1), .slot 2 (intVP .i64 a_2), .slot 4 (lpVP (b1 0) 0), .slot 7 (lpVP (b1 1) 0), .slot 8 (lpVP (b1 2) 0), .slot 23 (boolVP x4), .res (Log_e p_1 L_1), .res (lb (b1 0) 27 [bytesCk 32 a_0.f_Seed, one (intVP .i64 a_0.f_Next), one (slVP (dC 32) a_0.f_Leaves)]), .res (lb (b1 1) 23 [bytesCk 32 a_3]), .res (lb (b1 2) 31 [one (intVP .i64 ((S_api_Sig.mk (0 : Int) [] [] []).f_Index)), one (slVP (dC 32) ((S_api_Sig.mk (0 : Int) [] [] []).f_Parts)), one (slVP (dC 32) ((S_api_Sig.mk (0 : Int) [] [] []).f_Others)), one (slVP (dC 32) ((S_api_Sig.mk (0 : Int) [] [] []).f_Path))])] a w) ?_ ?_
  · rcases Bool.eq_false_or_eq_true (!decide ((a_0.f_Leaves.length : Int) = (16 : Int))) with hb8 | hb8
    · replace hF := tt_of hb8 hF
      refine reg mixed hn hG h [0, 1, 2, 3, 4, 500, 5, 6, 7, 8] (ov [2] (op_fieldAddr_lbm (p := (b1 0)) (n := 1) 0 33 Tryd.underlying27 rfl Tryd.sizeOf24 (by decide) q0 rfl) <| ov [500, 6] (op_load_lb1 [bytesCk 32 a_0.f_Seed, one (intVP .i64 a_0.f_Next)] [] 1 Tryd.isAgg24 q0 rfl rfl) <| ov [500] (op_len_sl Tryd.underlying24 q0) <| ov [500] (op_bin bin_neq q0 qi) <| ov [500] (op_move q0) <| oe [500] [] (GOk.off_v (want := false) hb8 rfl rfl rfl rfl) <| oe [501] [] (GOk.off_v (want := false) hb8 rfl rfl rfl rfl) <| ov [502] (op_pick_t hb8 q0 qb) <| ov [500] (op_move q0) <| oe [500] [] (GOk.off_v (want := false) rfl rfl rfl rfl rfl) <| oe [501] [] (GOk.off_v (want := false) rfl rfl rfl rfl rfl) <| ov [502] (op_pick_t rfl q0 qb) .nil) fun _ a w h => ?_
      exact ⟨true, hF, h.sub [0, 1, 2, 3, 4, 5, 6, 7, 8, 9] (by rfl)⟩
    · replace hF := ff_of hb8 hF
      rcases Bool.eq_false_or_eq_true (decide (a_2 < (0 : Int))) with hb9 | hb9
      · replace hF := tt_of hb9 hF
        refine reg mixed hn hG h [0, 1, 2, 3, 4, 500, 5, 6, 7, 8] (ov [2] (op_fieldAddr_lbm (p := (b1 0)) (n := 1) 0 33 Tryd.underlying27 rfl Tryd.sizeOf24 (by decide) q0 rfl) <| ov [500, 6] (op_load_lb1 [bytesCk 32 a_0.f_Seed, one (intVP .i64 a_0.f_Next)] [] 1 Tryd.isAgg24 q0 rfl rfl) <| ov [500] (op_len_sl Tryd.underlying24 q0) <| ov [500] (op_bin bin_neq q0 qi) <| ov [500] (op_move q0) <| oe [500, 1] [] (GOk.on_eq hb8 rfl rfl rfl (op_move q0)) <| oe [501, 500] [] (GOk.on_eq hb8 rfl rfl rfl (op_bin bin_lss q0 qi)) <| ov [502, 500] (op_pick_f hb8 q0 q1) <| ov [500] (op_move q0) <| oe [500] [] (GOk.off_v (want := false) hb9 rfl rfl rfl rfl) <| oe [501] [] (GOk.off_v (want := false) hb9 rfl rfl rfl rfl) <| ov [502] (op_pick_t hb9 q0 qb) .nil) fun _ a w h => ?_
        exact ⟨true, hF, h.sub [0, 1, 2, 3, 4, 5, 6, 7, 8, 9] (by rfl)⟩
      · replace hF := ff_of hb9 hF
        refine reg mixed hn hG h [0, 1, 2, 3, 4, 500, 5, 6, 7, 8] (ov [2] (op_fieldAddr_lbm (p := (b1 0)) (n := 1) 0 33 Tryd.underlying27 rfl Tryd.sizeOf24 (by decide) q0 rfl) <| ov [500, 6] (op_load_lb1 [bytesCk 32 a_0.f_Seed, one (intVP .i64 a_0.f_Next)] [] 1 Tryd.isAgg24 q0 rfl rfl) <| ov [500] (op_len_sl Tryd.underlying24 q0) <| ov [500] (op_bin bin_neq q0 qi) <| ov [500] (op_move q0) <| oe [500, 1] [] (GOk.on_eq hb8 rfl rfl rfl (op_move q0)) <| oe [501, 500] [] (GOk.on_eq hb8 rfl rfl rfl (op_bin bin_lss q0 qi)) <| ov [502, 500] (op_pick_f hb8 q0 q1) <| ov [500] (op_move q0) <| oe [500, 1] [] (GOk.on_eq hb9 rfl rfl rfl (op_move q0)) <| oe [501, 500] [] (GOk.on_eq hb9 rfl rfl rfl (op_bin bin_geq q0 qi)) <| ov [502, 500] (op_pick_f hb9 q0 q1) .nil) fun _ a w h => ?_
        exact ⟨decide ((16 : Int) ≤ a_2), hF, h.sub [0, 1, 2, 3, 4, 5, 6, 7, 8, 9] (by rfl)⟩
  · clear h hF
    rintro a w ⟨x4, hF, h⟩
    unfold keys_Signer_Again.j1 at hF
    show Code.wp Tryd.prog _ _ a w
    refine cnd h hF 5 [4, 6, 9] [0, 1, 2, 3, 4, 6, 7, 8, 9] (fun hb5 hF h => ?_) (fun hb5 hF h => ?_)
    · refine regS mixed hn hG h [0, 500, 1, 501] (ov [] (op_build [] rfl bu31 z31 rfl) <| ou [0, 500] 2 (op_store_w Tryd.sizeOf31 q0 q1 (cells_agg _)) <| ov [] (op_assign qi) .nil) fun _ a w h => ?_
      refine wp_ret ?_
      obtain rfl := Option.some.inj hF
      exact ⟨.inl rfl, retn h (rs := [.cell 8 31, .tmp 9]) (Vs := [(aggVP [one (intVP .i64 (0 : Int)), one (slVP (dC 32) []), one (slVP (dC 32) []), one (slVP (dC 32) [])]), (intVP .i64 2)]) Tryd.results16 (by decide) ⟨(r_cell 0 3 rfl rfl Tryd.isAgg31 Tryd.sizeOf31 rfl), (r_tmp 1 rfl), trivial⟩ [2] [(Log_e p_1 L_1)] rfl rfl rfl⟩
    · refine wp_skip ?_
      show Code.wp Tryd.prog _ _ a w
      obtain ⟨r6, hr6, hF⟩ := bind_some hF
      refine regS mixed hn hG h [0, 1, 2, 4, 501, 500, 6, 8, 505] (ov [0] (op_move q0) <| ov [2] (op_fieldAddr_lbm (p := (b1 0)) (n := 32) 0 0 Tryd.underlying27 rfl Tryd.sizeOf23 (by decide) q0 rfl) <| ov [500, 6] (op_load_lb [] [bytesCk 32 a_0.f_Seed] [one (intVP .i64 a_0.f_Next), one (slVP (dC 32) a_0.f_Leaves)] 1 Tryd.isAgg23 Tryd.sizeOf23 q0 rfl rfl rfl) <| ov [1] (op_move q0) <| ov [3, 7] (op_load_w 1 Tryd.isAgg23 Tryd.sizeOf23 q0) <| oc [504, 502, 501, 500] [5] Tryd.call51 (lamport_Sign_ok hr6) ⟨q0, q1, q2, q3, trivial⟩ <| ov [501] (op_move q0) <| ov [500] (op_extract q0 rfl) <| ov [501] (op_extract q0 rfl) <| ov [501] (op_assign q0) <| ov [501] (op_assign q0) .nil) fun _ a w h => ?_
      obtain ⟨r7, hr7, hF⟩ := bind_some hF
      refine regS mixed hn hG h [3, 500, 501, 503] (ov [1] (op_move q0) <| ov [4] (op_move q0) <| ov [5] (op_move q0) <| ov [2, 6] (op_load_w 1 Tryd.isAgg27 Tryd.sizeOf27 q0) <| ov [0] (op_move q0) <| ov [1] (op_move q0) <| oc [502, 501, 500] [8] Tryd.call52 (keys_Signer_path_ok hr7) ⟨q0, q1, q2, trivial⟩ <| ov [507, 506, 505, 501] (op_build [(0, .tmp 34), (1, .tmp 35), (2, .tmp 36), (3, .tmp 40)] rfl bu31 z31 ⟨[], [one (intVP .i64 (0 : Int))], [one (slVP (dC 32) []), one (slVP (dC 32) []), one (slVP (dC 32) [])], [one (intVP .i64 a_2)], _, rfl, rfl, rfl, q0, (cells_one (one_int _ _)), ⟨[one (intVP .i64 a_2)], [one (slVP (dC 32) [])], [one (slVP (dC 32) []), one (slVP (dC 32) [])], [one (slVP (dC 32) r6.1)], _, rfl, rfl, rfl, q1, (cells_one (one_sl _ _)), ⟨[one (intVP .i64 a_2), one (slVP (dC 32) r6.1)], [one (slVP (dC 32) [])], [one (slVP (dC 32) [])], [one (slVP (dC 32) r6.2.1)], _, rfl, rfl, rfl, q2, (cells_one (one_sl _ _)), ⟨[one (intVP .i64 a_2), one (slVP (dC 32) r6.1), one (slVP (dC 32) r6.2.1)], [one (slVP (dC 32) [])], [], [one (slVP (dC 32) r7.1)], _, rfl, rfl, rfl, q3, (cells_one (one_sl _ _)), rfl⟩⟩⟩⟩) <| ou [3, 500] 7 (op_store_w Tryd.sizeOf31 q0 q1 (cells_agg _)) <| ov [] (op_assign qi) .nil) fun _ a w h => ?_
      refine wp_ret ?_
      obtain rfl := Option.some.inj hF
      exact ⟨.inl rfl, retn h (rs := [.cell 8 31, .tmp 9]) (Vs := [(aggVP [one (intVP .i64 a_2), one (slVP (dC 32) r6.1), one (slVP (dC 32) r6.2.1), one (slVP (dC 32) r7.1)]), (intVP .i64 0)]) Tryd.results16 (by decide) ⟨(r_cell 0 2 rfl rfl Tryd.isAgg31 Tryd.sizeOf31 rfl), (r_tmp 1 rfl), trivial⟩ [3] [(Log_e p_1 r7.2)] rfl rfl rfl⟩

def slices_Clone_api_Digest (a_0 : List (List UInt8)) : Option (List (List UInt8)) := (if a_0.length * 32 ≤ 140737488355328 then some a_0 else none)
theorem slices_Clone_api_Digest_ok {a_0 r : List (List UInt8)} (hF : slices_Clone_api_Digest a_0 = some r) : CallOk Tryd.prog KG 50 [(slVP (dC 32) a_0)] [] (fun _ => []) (slVP (dC 32) r) := by
  unfold slices_Clone_api_Digest at hF
  obtain ⟨hv1, hF⟩ := ite_some hF
  obtain rfl := Option.some.inj hF
  refine CallOk.intro 8 Tryd.func50 rfl Tryd.ntmps50 (Nat.le_of_ble_eq_true rfl) ?_
  intro c a w hG hn h
  change SatL c [.slot 0 (slVP (dC 32) a_0)] a w at h
  refine wp_seq ?_
  refine region_do (n := 8) [.slot 2 100000 100000 (fun _ _ => (eqVP (.slice none 0 0)))] [0] [⟨[], [], [1], [], some 2⟩] [0] mixed hn hG h (by kernel_rfl) ?_ ?_
  · exact ⟨⟨rfl, fun β => (GOk.plain (op_assign (opc (ec _))) rfl)⟩, trivial⟩
  clear h
  intro β a w h
  change SatL c [.slot 0 (slVP (dC 32) a_0)] a w at h
  clear β
  show Code.wp Tryd.prog _ _ a w
  refine wp_seq ?_
  refine wp_seq ?_
  refine region_do (n := 8) [.slot 3 100000 100000 (fun _ _ => (slVP (dC 32) a_0)), .slot 4 100000 100000 (fun _ _ => (nilqVP a_0))] [0, 1] [⟨[0], [], [1], [], some 3⟩, ⟨[1], [], [2], [0], some 4⟩] [0, 2] mixed hn hG h (by kernel_rfl) ?_ ?_
  · exact ⟨⟨rfl, fun β => (GOk.plain (op_move (opt 0 rfl)) rfl)⟩, ⟨rfl, fun β => (GOk.plain (op_bin (bin_slnil Tryd.underlying24) (opt 0 rfl) (opc (ec _))) rfl)⟩, trivial⟩
  clear h
  intro β a w h
  change SatL c [.slot 0 (slVP (dC 32) a_0), .slot 4 (nilqVP a_0)] a w at h
  clear β
  show Code.wp Tryd.prog _ _ a w
  obtain ⟨b0, hb0, h⟩ := h.nilq 1 rfl
  change SatL c [.slot 0 (slVP (dC 32) a_0), .slot 4 (boolVP b0)] a w at h
  refine cond_L h 1 rfl (fun hb => ?_) (fun hb => ?_)
  · obtain rfl := hb0 hb
    replace h := h.sub [] (by rfl)
    change SatL c [] a w at h
    refine wp_seq ?_
    refine region_do (n := 8) [.slot 2 100000 100000 (fun _ _ => (eqVP (.slice none 0 0)))] [0] [⟨[], [], [0], [], some 2⟩] [0] mixed hn hG h (by kernel_rfl) ?_ ?_
    · exact ⟨⟨rfl, fun β => (GOk.plain (op_assign (opc (ec _))) rfl)⟩, trivial⟩
    clear h
    intro β a w h
    change SatL c [.slot 2 (eqVP (.slice none 0 0))] a w at h
    clear β
    show Code.wp Tryd.prog _ _ a w
    refine wp_ret ?_
    exact ⟨.inl rfl, ret1 h Tryd.results50 (r_nil 0 rfl) [] [] rfl rfl rfl⟩
  · replace h := h.sub [0] (by rfl)
    change SatL c [.slot 0 (slVP (dC 32) a_0)] a w at h
    refine wp_skip ?_
    show Code.wp Tryd.prog _ _ a w
    refine wp_seq ?_
    refine region_do (n := 8) [.slot 5 100000 100000 (fun _ _ => empVP), .slot 6 100000 100000 (fun _ _ => (slVP (dC 32) a_0)), .slot 7 100000 100000 (fun _ _ => (slVP (dC 32) a_0)), .slot 2 100000 100000 (fun _ _ => (slVP (dC 32) a_0))] [0, 1, 2, 3] [⟨[], [], [1], [], some 5⟩, ⟨[0], [], [2], [0], some 6⟩, ⟨[1, 2], [], [3], [0, 1], some 7⟩, ⟨[3], [], [4], [0, 1, 2], some 2⟩] [4] mixed hn hG h (by kernel_rfl) ?_ ?_
    · exact ⟨⟨rfl, fun β => (GOk.plain (op_lit0 Tryd.underlying24 Tryd.sizeOf23 Tryd.zeroValue23) rfl)⟩, ⟨rfl, fun β => (GOk.plain (op_move (opt 0 rfl)) rfl)⟩, ⟨rfl, fun β => (GOk.plain (op_append_emp (i := Tryd.t23) Tryd.underlying24 Tryd.type23 rfl (lens_dC 32) (by decide) rfl (opt 0 rfl) (opt 1 rfl) hv1) rfl)⟩, ⟨rfl, fun β => (GOk.plain (op_assign (opt 0 rfl)) rfl)⟩, trivial⟩
    clear h
    intro β a w h
    change SatL c [.slot 2 (slVP (dC 32) a_0)] a w at h
    clear β
    show Code.wp Tryd.prog _ _ a w
    refine wp_ret ?_
    exact ⟨.inl rfl, ret1 h Tryd.results50 (r_tmp 0 rfl) [] [] rfl rfl rfl⟩

def keys_Signer_Sign.j1 (a_0 : S_keys_Signer) (L_1 : Option O_Log) (a_2 : List UInt8) (x5 : Bool) : Option (S_keys_Signer × S_api_Sig × Int × (Option O_Log)) := (if x5 = true then some (a_0, (S_api_Sig.mk (0 : Int) [] [] []), 22, L_1) else ((keys_Signer_Again a_0 L_1 a_0.f_Next a_2).bind fun r7 => (if (!decide (r7.2.1 = (0 : Int))) = true then some (a_0, (S_api_Sig.mk (0 : Int) [] [] []), r7.2.1, r7.2.2) else ((slices_Clone_api_Digest a_0.f_Leaves).bind fun r10 => some ((S_keys_Signer.mk a_0.f_Seed (IntKind.wrap .i64 (a_0.f_Next + 1)) r10), r7.1, 0, r7.2.2)))))
def keys_Signer_Sign (a_0 : S_keys_Signer) (L_1 : Option O_Log) (a_2 : List UInt8) : Option (S_keys_Signer × S_api_Sig × Int × (Option O_Log)) := (if (decide (a_0.f_Next < (0 : Int))) = true then keys_Signer_Sign.j1 a_0 L_1 a_2 true else keys_Signer_Sign.j1 a_0 L_1 a_2 (decide ((16 : Int) ≤ a_0.f_Next)))
theorem keys_Signer_Sign_ok {p_1 : Value} {a_0 : S_keys_Signer} {L_1 : Option O_Log} {a_2 : List UInt8} {r : S_keys_Signer × S_api_Sig × Int × (Option O_Log)} (hF : keys_Signer_Sign a_0 L_1 a_2 = some r) : CallOk Tryd.prog KG 14 [(aggVP [bytesCk 32 a_0.f_Seed, one (intVP .i64 a_0.f_Next), one (slVP (dC 32) a_0.f_Leaves)]), (eqVP p_1), (aggVP [bytesCk 32 a_2])] [(Log_e p_1 L_1)] (fun _ => [Log_e p_1 r.2.2.2]) (tupVP [(aggVP [bytesCk 32 r.1.f_Seed, one (intVP .i64 r.1.f_Next), one (slVP (dC 32) r.1.f_Leaves)]), (aggVP [one (intVP .i64 r.2.1.f_Index), one (slVP (dC 32) r.2.1.f_Parts), one (slVP (dC 32) r.2.1.f_Others), one (slVP (dC 32) r.2.1.f_Path)]), (intVP .i64 r.2.2.1)]) := by
  refine CallOk.intro 45 Tryd.func14 rfl Tryd.ntmps14 (Nat.le_of_ble_eq_true rfl) ?_
  intro c a w hG hn h
  unfold keys_Signer_Sign at hF
  change SatL c [.slot 0 (aggVP [bytesCk 32 a_0.f_Seed, one (intVP .i64 a_0.f_Next), one (slVP (dC 32) a_0.f_Leaves)]), .slot 1 (eqVP p_1), .slot 2 (aggVP [bytesCk 32 a_2]), .res (Log_e p_1 L_1)] a w at h
  refine regS mixed hn hG h [1, 508, 506, 504, 502, 3, 507, 505, 503, 501] (ob [0] (op_box q0 (cells_agg _)) <| ob [2] (op_box q0 (cells_agg _)) <| ob [] (op_alloc Tryd.zeroValue27 z27) <| ob [] (op_alloc Tryd.zeroValue31 z31) <| ov [] (op_assign qi) .nil) fun b1 a w h => ?_
  refine wp_seq ?_
  refine wp_seq ?_
  refine wp_cut (fun a w => ∃ (x5 : Bool), keys_Signer_Sign.j1 a_0 L_1 a_2 x5 = some r ∧ SatL c [.slot 1 (eqVP p_1), .slot 3 (lpVP (b1 0) 0), .slot 5 (lpVP (b1 1) 0), .slot 6 (lpVP (b1 2) 0), .slot 7 (lpVP (b1 3) 0), .slot 18 (boolVP x5), .res (Log_e p_1 L_1), .res (lb (b1 0) 27 [bytesCk 32 a_0.f_Seed, one (intVP .i64 a_0.f_Next), one (slVP (dC 32) a_0.f_Leaves)]), .res (lb (b1 1) 23 [bytesCk 32 a_2]), .res (lb (b1 2) 27 [bytesCk 32 ((S_keys_Signer.mk (List.replicate 32 0) (0 : Int) []).f_Seed), one (intVP .i64 ((S_keys_Signer.mk (List.replicate 32 0) (0 : Int) []).f_Next)), one (slVP (dC 32) ((S_keys_Signer.mk (List.replicate 32 0) (0 : Int) []).f_Leaves))]), .res (lb (b1 3) 31 [one (intVP .i64 ((S_api_Sig.mk (0 : Int) [] [] []).f_Index)), one (slVP (dC 32) ((S_api_Sig.mk (0 : Int) [] [] []).f_Parts)), one (slVP (dC 32) ((S_api_Sig.mk (0 : Int) [] [] []).f_Others)), one (slVP (dC 32) ((S_api_Sig.mk (0 : Int) [] [] []).f_Path))])] a w) ?_ ?_
  · rcases Bool.eq_false_or_eq_true (decide (a_0.f_Next < (0 : Int))) with hb11 | hb11
    · replace hF := tt_of hb11 hF
      refine reg mixed hn hG h [0, 1, 2, 3, 4, 500, 5, 6, 7, 8, 9] (ov [1] (op_fieldAddr_lbm (p := (b1 0)) (n := 1) 0 32 Tryd.underlying27 rfl Tryd.sizeOf3 (by decide) q0 rfl) <| ov [500, 6] (op_load_lb1 [bytesCk 32 a_0.f_Seed] [one (slVP (dC 32) a_0.f_Leaves)] 1 Tryd.isAgg3 q0 rfl rfl) <| ov [500] (op_bin bin_lss q0 qi) <| ov [500] (op_move q0) <| oe [500] [] (GOk.off_v (want := false) hb11 rfl rfl rfl rfl) <| oe [501] [] (GOk.off_v (want := false) hb11 rfl rfl rfl rfl) <| oe [502] [] (GOk.off_v (want := false) hb11 rfl rfl rfl rfl) <| ov [503] (op_pick_t hb11 q0 qb) .nil) fun _ a w h => ?_
      exact ⟨true, hF, h.sub [0, 1, 2, 3, 4, 5, 6, 7, 8, 9, 10] (by rfl)⟩
    · replace hF := ff_of hb11 hF
      refine reg mixed hn hG h [0, 1, 2, 3, 4, 500, 5, 6, 7, 8, 9] (ov [1] (op_fieldAddr_lbm (p := (b1 0)) (n := 1) 0 32 Tryd.underlying27 rfl Tryd.sizeOf3 (by decide) q0 rfl) <| ov [500, 6] (op_load_lb1 [bytesCk 32 a_0.f_Seed] [one (slVP (dC 32) a_0.f_Leaves)] 1 Tryd.isAgg3 q0 rfl rfl) <| ov [500] (op_bin bin_lss q0 qi) <| ov [500] (op_move q0) <| oe [500, 1] [] (GOk.on_eq hb11 rfl rfl rfl (op_fieldAddr_lbm (p := (b1 0)) (n := 1) 0 32 Tryd.underlying27 rfl Tryd.sizeOf3 (by decide) q0 rfl)) <| oe [501, 500, 6] [] (GOk.on_eq hb11 rfl rfl rfl (op_load_lb1 [bytesCk 32 a_0.f_Seed] [one (slVP (dC 32) a_0.f_Leaves)] 1 Tryd.isAgg3 q0 rfl rfl)) <| oe [502, 500] [] (GOk.on_eq hb11 rfl rfl rfl (op_bin bin_geq q0 qi)) <| ov [503, 500] (op_pick_f hb11 q0 q1) .nil) fun _ a w h => ?_
      exact ⟨decide ((16 : Int) ≤ a_0.f_Next), hF, h.sub [0, 1, 2, 3, 4, 5, 6, 7, 8, 9, 10] (by rfl)⟩
  · clear h hF
    rintro a w ⟨x5, hF, h⟩
    unfold keys_Signer_Sign.j1 at hF
    show Code.wp Tryd.prog _ _ a w
    refine cnd h hF 5 [1, 3, 4, 6, 7, 9, 10] [0, 1, 2, 3, 4, 6, 7, 8, 9, 10] (fun hb6 hF h => ?_) (fun hb6 hF h => ?_)
    · refine regS mixed hn hG h [1, 2, 500, 3, 502, 501] (ov [0, 4] (op_load_w 1 Tryd.isAgg27 Tryd.sizeOf27 q0) <| ov [] (op_build [] rfl bu31 z31 rfl) <| ou [1, 501] 5 (op_store_w Tryd.sizeOf27 q0 q1 (cells_agg _)) <| ou [2, 501] 6 (op_store_w Tryd.sizeOf31 q0 q1 (cells_agg _)) <| ov [] (op_assign qi) .nil) fun _ a w h => ?_
      refine wp_ret ?_
      obtain rfl := Option.some.inj hF
      exact ⟨.inl rfl, retn h (rs := [.cell 6 27, .cell 7 31, .tmp 8]) (Vs := [(aggVP [bytesCk 32 a_0.f_Seed, one (intVP .i64 a_0.f_Next), one (slVP (dC 32) a_0.f_Leaves)]), (aggVP [one (intVP .i64 (0 : Int)), one (slVP (dC 32) []), one (slVP (dC 32) []), one (slVP (dC 32) [])]), (intVP .i64 22)]) Tryd.results14 (by decide) ⟨(r_cell 0 4 rfl rfl Tryd.isAgg27 Tryd.sizeOf27 rfl), (r_cell 1 5 rfl rfl Tryd.isAgg31 Tryd.sizeOf31 rfl), (r_tmp 2 rfl), trivial⟩ [3] [(Log_e p_1 L_1)] rfl rfl rfl⟩
    · refine wp_skip ?_
      show Code.wp Tryd.prog _ _ a w
      obtain ⟨r7, hr7, hF⟩ := bind_some hF
      refine regS mixed hn hG h [1, 3, 4, 503, 500, 6, 8, 9, 507, 501] (ov [1, 6] (op_load_w 1 Tryd.isAgg27 Tryd.sizeOf27 q0) <| ov [0] (op_move q0) <| ov [1] (op_fieldAddr_lbm (p := (b1 0)) (n := 1) 0 32 Tryd.underlying27 rfl Tryd.sizeOf3 (by decide) q0 rfl) <| ov [500, 6] (op_load_lb1 [bytesCk 32 a_0.f_Seed] [one (slVP (dC 32) a_0.f_Leaves)] 1 Tryd.isAgg3 q0 rfl rfl) <| ov [2, 7] (op_load_w 1 Tryd.isAgg23 Tryd.sizeOf23 q0) <| oc [504, 503, 501, 500] [5] Tryd.call16 (keys_Signer_Again_ok hr7) ⟨q0, q1, q2, q3, trivial⟩ <| ov [501] (op_move q0) <| ov [500] (op_extract q0 rfl) <| ov [501] (op_extract q0 rfl) <| ob [] (op_alloc Tryd.zeroValue31 z31) <| og [501, 503] [500] [.res 9 100000 (fun v1_ _ => (lb (v1_) 31 [one (intVP .i64 r7.1.f_Index), one (slVP (dC 32) r7.1.f_Parts), one (slVP (dC 32) r7.1.f_Others), one (slVP (dC 32) r7.1.f_Path)]))] (GOk.plain (op_store_w Tryd.sizeOf31 q0 q1 (cells_agg _)) rfl) <| ov [503] (op_assign q0) .nil) fun b8 a w h => ?_
      refine wp_seq ?_
      refine regS mixed hn hG h [0, 1, 2, 3, 4, 500, 5, 6, 7, 8, 9] (ov [4] (op_move q0) <| ov [500] (op_bin bin_neq q0 qi) .nil) fun _ a w h => ?_
      refine cnd h hF 5 [0, 1, 2, 4, 6, 7, 8, 9] [0, 1, 2, 3, 6, 7, 8, 9, 10] (fun hb9 hF h => ?_) (fun hb9 hF h => ?_)
      · refine regS mixed hn hG h [1, 2, 500, 502, 501, 7] (ov [0, 4] (op_load_w 1 Tryd.isAgg27 Tryd.sizeOf27 q0) <| ov [] (op_build [] rfl bu31 z31 rfl) <| ov [3] (op_move q0) <| ou [1, 502] 5 (op_store_w Tryd.sizeOf27 q0 q1 (cells_agg _)) <| ou [2, 502] 6 (op_store_w Tryd.sizeOf31 q0 q1 (cells_agg _)) <| ov [502] (op_assign q0) .nil) fun _ a w h => ?_
        refine wp_ret ?_
        obtain rfl := Option.some.inj hF
        exact ⟨.inl rfl, retn h (rs := [.cell 6 27, .cell 7 31, .tmp 8]) (Vs := [(aggVP [bytesCk 32 a_0.f_Seed, one (intVP .i64 a_0.f_Next), one (slVP (dC 32) a_0.f_Leaves)]), (aggVP [one (intVP .i64 (0 : Int)), one (slVP (dC 32) []), one (slVP (dC 32) []), one (slVP (dC 32) [])]), (intVP .i64 r7.2.1)]) Tryd.results14 (by decide) ⟨(r_cell 0 3 rfl rfl Tryd.isAgg27 Tryd.sizeOf27 rfl), (r_cell 1 4 rfl rfl Tryd.isAgg31 Tryd.sizeOf31 rfl), (r_tmp 2 rfl), trivial⟩ [5] [(Log_e p_1 r7.2.2)] rfl rfl rfl⟩
      · refine wp_skip ?_
        show Code.wp Tryd.prog _ _ a w
        refine regS mixed hn hG h [0, 1, 2, 3, 500, 5, 6, 7, 8] (ov [0] (op_fieldAddr_lbm (p := (b1 0)) (n := 1) 0 32 Tryd.underlying27 rfl Tryd.sizeOf3 (by decide) q0 rfl) <| ov [500, 4] (op_load_lb1 [bytesCk 32 a_0.f_Seed] [one (slVP (dC 32) a_0.f_Leaves)] 1 Tryd.isAgg3 q0 rfl rfl) <| ov [500] (op_bin bin_add q0 qi) <| ov [0] (op_fieldAddr_lbm (p := (b1 0)) (n := 1) 0 32 Tryd.underlying27 rfl Tryd.sizeOf3 (by decide) q0 rfl) <| ou [500, 501] 4 (op_store_lb [bytesCk 32 a_0.f_Seed] [one (intVP .i64 a_0.f_Next)] [one (slVP (dC 32) a_0.f_Leaves)] [one (intVP .i64 (IntKind.wrap .i64 (a_0.f_Next + 1)))] Tryd.sizeOf3 q0 q1 (cells_one (one_int _ _)) rfl rfl rfl) .nil) fun _ a w h => ?_
        obtain ⟨r10, hr10, hF⟩ := bind_some hF
        refine regS mixed hn hG h [0, 1, 2, 3, 500, 5, 6, 7, 8] (ov [0] (op_fieldAddr_lbm (p := (b1 0)) (n := 1) 0 33 Tryd.underlying27 rfl Tryd.sizeOf24 (by decide) q0 rfl) <| ov [500, 4] (op_load_lb1 [bytesCk 32 a_0.f_Seed, one (intVP .i64 (IntKind.wrap .i64 (a_0.f_Next + 1)))] [] 1 Tryd.isAgg24 q0 rfl rfl) <| oc [500] [] Tryd.call50 (slices_Clone_api_Digest_ok hr10) ⟨q0, trivial⟩ <| ov [0] (op_fieldAddr_lbm (p := (b1 0)) (n := 1) 0 33 Tryd.underlying27 rfl Tryd.sizeOf24 (by decide) q0 rfl) <| ou [500, 501] 4 (op_store_lb [bytesCk 32 a_0.f_Seed, one (intVP .i64 (IntKind.wrap .i64 (a_0.f_Next + 1)))] [one (slVP (dC 32) a_0.f_Leaves)] [] [one (slVP (dC 32) r10)] Tryd.sizeOf24 q0 q1 (cells_one (one_sl _ _)) rfl rfl rfl) .nil) fun _ a w h => ?_
        refine regS mixed hn hG h [1, 2, 500, 502, 501, 7] (ov [0, 4] (op_load_w 1 Tryd.isAgg27 Tryd.sizeOf27 q0) <| ov [3, 8] (op_load_w 1 Tryd.isAgg31 Tryd.sizeOf31 q0) <| ou [1, 501] 5 (op_store_w Tryd.sizeOf27 q0 q1 (cells_agg _)) <| ou [2, 501] 6 (op_store_w Tryd.sizeOf31 q0 q1 (cells_agg _)) <| ov [] (op_assign qi) .nil) fun _ a w h => ?_
        refine wp_ret ?_
        obtain rfl := Option.some.inj hF
        exact ⟨.inl rfl, retn h (rs := [.cell 6 27, .cell 7 31, .tmp 8]) (Vs := [(aggVP [bytesCk 32 a_0.f_Seed, one (intVP .i64 (IntKind.wrap .i64 (a_0.f_Next + 1))), one (slVP (dC 32) r10)]), (aggVP [one (intVP .i64 r7.1.f_Index), one (slVP (dC 32) r7.1.f_Parts), one (slVP (dC 32) r7.1.f_Others), one (slVP (dC 32) r7.1.f_Path)]), (intVP .i64 0)]) Tryd.results14 (by decide) ⟨(r_cell 0 3 rfl rfl Tryd.isAgg27 Tryd.sizeOf27 rfl), (r_cell 1 4 rfl rfl Tryd.isAgg31 Tryd.sizeOf31 rfl), (r_tmp 2 rfl), trivial⟩ [5] [(Log_e p_1 r7.2.2)] rfl rfl rfl⟩

def update_Claim (L_0 : Option O_Log) (a_1 : Int) (a_2 : List UInt8) (a_3 : List UInt8) : Option ((List UInt8) × (Option O_Log)) := ((wire_Word a_1).bind fun r4 => ((wire_Digest a_2).bind fun r5 => ((wire_Digest a_3).bind fun r6 => ((digest_Log_Of L_0 7 [r4, r5, r6]).bind fun r7 => some (r7.1, r7.2)))))
theorem update_Claim_ok {p_0 : Value} {L_0 : Option O_Log} {a_1 : Int} {a_2 : List UInt8} {a_3 : List UInt8} {r : (List UInt8) × (Option O_Log)} (hF : update_Claim L_0 a_1 a_2 a_3 = some r) : CallOk Tryd.prog KG 30 [(eqVP p_0), (intVP .u32 a_1), (aggVP [bytesCk 32 a_2]), (aggVP [bytesCk 32 a_3])] [(Log_e p_0 L_0)] (fun _ => [Log_e p_0 r.2]) (aggVP [bytesCk 32 r.1]) := by
  refine CallOk.intro 18 Tryd.func30 rfl Tryd.ntmps30 (Nat.le_of_ble_eq_true rfl) ?_
  intro c a w hG hn h
  unfold update_Claim at hF
  change SatL c [.slot 0 (eqVP p_0), .slot 1 (intVP .u32 a_1), .slot 2 (aggVP [bytesCk 32 a_2]), .slot 3 (aggVP [bytesCk 32 a_3]), .res (Log_e p_0 L_0)] a w at h
  refine regS mixed hn hG h [0, 1, 505, 503, 501, 4, 504, 502, 500] (ob [2] (op_box q0 (cells_agg _)) <| ob [3] (op_box q0 (cells_agg _)) <| ob [] (op_alloc Tryd.zeroValue23 z23) .nil) fun b1 a w h => ?_
  obtain ⟨r4, hr4, hF⟩ := bind_some hF
  obtain ⟨r5, hr5, hF⟩ := bind_some hF
  obtain ⟨r6, hr6, hF⟩ := bind_some hF
  obtain ⟨r7, hr7, hF⟩ := bind_some hF
  refine regS mixed hn hG h [4, 500, 501] (ov [0] (op_move q0) <| ov [1] (op_move q0) <| oc [500] [] Tryd.call63 (wire_Word_ok hr4) ⟨q0, trivial⟩ <| ov [2, 6] (op_load_w 1 Tryd.isAgg23 Tryd.sizeOf23 q0) <| oc [500] [] Tryd.call64 (wire_Digest_ok hr5) ⟨q0, trivial⟩ <| ov [3, 7] (op_load_w 1 Tryd.isAgg23 Tryd.sizeOf23 q0) <| oc [500] [] Tryd.call64 (wire_Digest_ok hr6) ⟨q0, trivial⟩ <| ov [504, 502, 500] (op_lit (xs := [.tmp 11, .tmp 13, .tmp 15]) (ys := [r4, r5, r6]) _ rfl Tryd.underlying101 Tryd.sizeOf9 Tryd.zeroValue9 rfl rfl (by decide) (by decide) ⟨⟨_, q0, (cells_one (one_str _))⟩, ⟨_, q1, (cells_one (one_str _))⟩, ⟨_, q2, (cells_one (one_str _))⟩, trivial⟩ lens_strC) <| oc [507, 500] [5] Tryd.call62 (digest_Log_Of_ok hr7) ⟨q0, qi, q1, trivial⟩ <| ou [4, 501] 8 (op_store_w Tryd.sizeOf23 q0 q1 (cells_agg _)) .nil) fun _ a w h => ?_
  refine wp_ret ?_
  obtain rfl := Option.some.inj hF
  exact ⟨.inl rfl, ret1 h Tryd.results30 (r_cell 0 1 rfl rfl Tryd.isAgg23 Tryd.sizeOf23 rfl) [2] [(Log_e p_0 r7.2)] rfl rfl rfl⟩

def update_Sign (L_0 : Option O_Log) (a_1 : S_keys_Signer) (a_2 : Int) (a_3 : List UInt8) (a_4 : List UInt8) : Option (S_keys_Signer × S_api_Update × Int × (Option O_Log)) := ((update_Claim L_0 a_2 a_3 a_4).bind fun r6 => ((keys_Signer_Sign a_1 r6.2 r6.1).bind fun r7 => (if (!decide (r7.2.2.1 = (0 : Int))) = true then some (a_1, (S_api_Update.mk (0 : Int) (List.replicate 32 0) (List.replicate 32 0) (S_api_Sig.mk (0 : Int) [] [] [])), r7.2.2.1, r7.2.2.2) else some (r7.1, (S_api_Update.mk a_2 a_3 a_4 r7.2.1), 0, r7.2.2.2))))
theorem update_Sign_ok {p_0 : Value} {L_0 : Option O_Log} {a_1 : S_keys_Signer} {a_2 : Int} {a_3 : List UInt8} {a_4 : List UInt8} {r : S_keys_Signer × S_api_Update × Int × (Option O_Log)} (hF : update_Sign L_0 a_1 a_2 a_3 a_4 = some r) : CallOk Tryd.prog KG 26 [(eqVP p_0), (aggVP [bytesCk 32 a_1.f_Seed, one (intVP .i64 a_1.f_Next), one (slVP (dC 32) a_1.f_Leaves)]), (intVP .u32 a_2), (aggVP [bytesCk 32 a_3]), (aggVP [bytesCk 32 a_4])] [(Log_e p_0 L_0)] (fun _ => [Log_e p_0 r.2.2.2]) (tupVP [(aggVP [bytesCk 32 r.1.f_Seed, one (intVP .i64 r.1.f_Next), one (slVP (dC 32) r.1.f_Leaves)]), (aggVP [one (intVP .u32 r.2.1.f_Home), bytesCk 32 r.2.1.f_Old, bytesCk 32 r.2.1.f_New, one (intVP .i64 r.2.1.f_Sig.f_Index), one (slVP (dC 32) r.2.1.f_Sig.f_Parts), one (slVP (dC 32) r.2.1.f_Sig.f_Others), one (slVP (dC 32) r.2.1.f_Sig.f_Path)]), (intVP .i64 r.2.2.1)]) := by
  refine CallOk.intro 39 Tryd.func26 rfl Tryd.ntmps26 (Nat.le_of_ble_eq_true rfl) ?_
  intro c a w hG hn h
  unfold update_Sign at hF
  change SatL c [.slot 0 (eqVP p_0), .slot 1 (aggVP [bytesCk 32 a_1.f_Seed, one (intVP .i64 a_1.f_Next), one (slVP (dC 32) a_1.f_Leaves)]), .slot 2 (intVP .u32 a_2), .slot 3 (aggVP [bytesCk 32 a_3]), .slot 4 (aggVP [bytesCk 32 a_4]), .res (Log_e p_0 L_0)] a w at h
  refine regS mixed hn hG h [0, 2, 510, 508, 506, 504, 502, 5, 509, 507, 505, 503, 501] (ob [1] (op_box q0 (cells_agg _)) <| ob [3] (op_box q0 (cells_agg _)) <| ob [4] (op_box q0 (cells_agg _)) <| ob [] (op_alloc Tryd.zeroValue27 z27) <| ob [] (op_alloc Tryd.zeroValue53 z53) <| ov [] (op_assign qi) .nil) fun b1 a w h => ?_
  obtain ⟨r6, hr6, hF⟩ := bind_some hF
  obtain ⟨r7, hr7, hF⟩ := bind_some hF
  refine regS mixed hn hG h [1, 2, 3, 4, 5, 6, 506, 504, 500, 8, 9, 10, 11, 12, 511, 502, 501] (ov [2, 8] (op_load_w 1 Tryd.isAgg27 Tryd.sizeOf27 q0) <| ov [0] (op_move q0) <| ov [0] (op_move q0) <| ov [1] (op_move q0) <| ov [3, 9] (op_load_w 1 Tryd.isAgg23 Tryd.sizeOf23 q0) <| ov [4, 10] (op_load_w 1 Tryd.isAgg23 Tryd.sizeOf23 q0) <| oc [503, 502, 501, 500] [7] Tryd.call30 (update_Claim_ok hr6) ⟨q0, q1, q2, q3, trivial⟩ <| oc [507, 506, 501] [500] Tryd.call14 (keys_Signer_Sign_ok hr7) ⟨q0, q1, q2, trivial⟩ <| ov [501] (op_move q0) <| ov [500] (op_extract q0 rfl) <| ov [501] (op_extract q0 rfl) <| ov [502] (op_extract q0 rfl) <| ob [] (op_alloc Tryd.zeroValue27 z27) <| ob [] (op_alloc Tryd.zeroValue31 z31) <| og [503, 506] [502] [.res 12 100000 (fun v1_ _ => (lb (v1_) 27 [bytesCk 32 r7.1.f_Seed, one (intVP .i64 r7.1.f_Next), one (slVP (dC 32) r7.1.f_Leaves)]))] (GOk.plain (op_store_w Tryd.sizeOf27 q0 q1 (cells_agg _)) rfl) <| og [502, 506] [501] [.res 13 100000 (fun v1_ _ => (lb (v1_) 31 [one (intVP .i64 r7.2.1.f_Index), one (slVP (dC 32) r7.2.1.f_Parts), one (slVP (dC 32) r7.2.1.f_Others), one (slVP (dC 32) r7.2.1.f_Path)]))] (GOk.plain (op_store_w Tryd.sizeOf31 q0 q1 (cells_agg _)) rfl) <| ov [506] (op_assign q0) .nil) fun b8 a w h => ?_
  refine wp_seq ?_
  refine regS mixed hn hG h [0, 1, 2, 3, 4, 5, 6, 7, 8, 500, 9, 10, 11, 12, 13, 14, 15, 16] (ov [8] (op_move q0) <| ov [500] (op_bin bin_neq q0 qi) .nil) fun _ a w h => ?_
  refine cnd h hF 9 [1, 4, 5, 8, 10, 13, 14, 15] [0, 2, 3, 4, 5, 6, 7, 11, 12, 13, 14, 15, 16, 17] (fun hb10 hF h => ?_) (fun hb10 hF h => ?_)
  · refine regS mixed hn hG h [1, 2, 500, 502, 501, 7] (ov [0, 4] (op_load_w 1 Tryd.isAgg27 Tryd.sizeOf27 q0) <| ov [] (op_build [] rfl bu53 z53 rfl) <| ov [3] (op_move q0) <| ou [1, 502] 5 (op_store_w Tryd.sizeOf27 q0 q1 (cells_agg _)) <| ou [2, 502] 6 (op_store_w Tryd.sizeOf53 q0 q1 (cells_agg _)) <| ov [502] (op_assign q0) .nil) fun _ a w h => ?_
    refine wp_ret ?_
    obtain rfl := Option.some.inj hF
    exact ⟨.inl rfl, retn h (rs := [.cell 10 27, .cell 11 53, .tmp 12]) (Vs := [(aggVP [bytesCk 32 a_1.f_Seed, one (intVP .i64 a_1.f_Next), one (slVP (dC 32) a_1.f_Leaves)]), (aggVP [one (intVP .u32 (0 : Int)), bytesCk 32 (List.replicate 32 0), bytesCk 32 (List.replicate 32 0), one (intVP .i64 ((S_api_Sig.mk (0 : Int) [] [] []).f_Index)), one (slVP (dC 32) ((S_api_Sig.mk (0 : Int) [] [] []).f_Parts)), one (slVP (dC 32) ((S_api_Sig.mk (0 : Int) [] [] []).f_Others)), one (slVP (dC 32) ((S_api_Sig.mk (0 : Int) [] [] []).f_Path))]), (intVP .i64 r7.2.2.1)]) Tryd.results26 (by decide) ⟨(r_cell 0 3 rfl rfl Tryd.isAgg27 Tryd.sizeOf27 rfl), (r_cell 1 4 rfl rfl Tryd.isAgg53 Tryd.sizeOf53 rfl), (r_tmp 2 rfl), trivial⟩ [5] [(Log_e p_0 r7.2.2.2)] rfl rfl rfl⟩
  · refine wp_skip ?_
    show Code.wp Tryd.prog _ _ a w
    refine regS mixed hn hG h [3, 4, 500, 502, 501, 11] (ov [5, 12] (op_load_w 1 Tryd.isAgg27 Tryd.sizeOf27 q0) <| ov [0] (op_move q0) <| ov [1, 7] (op_load_w 1 Tryd.isAgg23 Tryd.sizeOf23 q0) <| ov [2, 8] (op_load_w 1 Tryd.isAgg23 Tryd.sizeOf23 q0) <| ov [6, 13] (op_load_w 1 Tryd.isAgg31 Tryd.sizeOf31 q0) <| ov [503, 502, 501, 500] (op_build [(0, .tmp 34), (1, .tmp 35), (2, .tmp 36), (3, .tmp 37)] rfl bu53 z53 ⟨[], [one (intVP .u32 (0 : Int))], [bytesCk 32 (List.replicate 32 0), bytesCk 32 (List.replicate 32 0), one (intVP .i64 ((S_api_Sig.mk (0 : Int) [] [] []).f_Index)), one (slVP (dC 32) ((S_api_Sig.mk (0 : Int) [] [] []).f_Parts)), one (slVP (dC 32) ((S_api_Sig.mk (0 : Int) [] [] []).f_Others)), one (slVP (dC 32) ((S_api_Sig.mk (0 : Int) [] [] []).f_Path))], [one (intVP .u32 a_2)], _, rfl, rfl, rfl, q0, (cells_one (one_int _ _)), ⟨[one (intVP .u32 a_2)], [bytesCk 32 (List.replicate 32 0)], [bytesCk 32 (List.replicate 32 0), one (intVP .i64 ((S_api_Sig.mk (0 : Int) [] [] []).f_Index)), one (slVP (dC 32) ((S_api_Sig.mk (0 : Int) [] [] []).f_Parts)), one (slVP (dC 32) ((S_api_Sig.mk (0 : Int) [] [] []).f_Others)), one (slVP (dC 32) ((S_api_Sig.mk (0 : Int) [] [] []).f_Path))], [bytesCk 32 a_3], _, rfl, rfl, rfl, q1, (cells_agg _), ⟨[one (intVP .u32 a_2), bytesCk 32 a_3], [bytesCk 32 (List.replicate 32 0)], [one (intVP .i64 ((S_api_Sig.mk (0 : Int) [] [] []).f_Index)), one (slVP (dC 32) ((S_api_Sig.mk (0 : Int) [] [] []).f_Parts)), one (slVP (dC 32) ((S_api_Sig.mk (0 : Int) [] [] []).f_Others)), one (slVP (dC 32) ((S_api_Sig.mk (0 : Int) [] [] []).f_Path))], [bytesCk 32 a_4], _, rfl, rfl, rfl, q2, (cells_agg _), ⟨[one (intVP .u32 a_2), bytesCk 32 a_3, bytesCk 32 a_4], [one (intVP .i64 ((S_api_Sig.mk (0 : Int) [] [] []).f_Index)), one (slVP (dC 32) ((S_api_Sig.mk (0 : Int) [] [] []).f_Parts)), one (slVP (dC 32) ((S_api_Sig.mk (0 : Int) [] [] []).f_Others)), one (slVP (dC 32) ((S_api_Sig.mk (0 : Int) [] [] []).f_Path))], [], [one (intVP .i64 r7.2.1.f_Index), one (slVP (dC 32) r7.2.1.f_Parts), one (slVP (dC 32) r7.2.1.f_Others), one (slVP (dC 32) r7.2.1.f_Path)], _, rfl, rfl, rfl, q3, (cells_agg _), rfl⟩⟩⟩⟩) <| ou [3, 505] 9 (op_store_w Tryd.sizeOf27 q0 q1 (cells_agg _)) <| ou [4, 501] 10 (op_store_w Tryd.sizeOf53 q0 q1 (cells_agg _)) <| ov [] (op_assign qi) .nil) fun _ a w h => ?_
    refine wp_ret ?_
    obtain rfl := Option.some.inj hF
    exact ⟨.inl rfl, retn h (rs := [.cell 10 27, .cell 11 53, .tmp 12]) (Vs := [(aggVP [bytesCk 32 r7.1.f_Seed, one (intVP .i64 r7.1.f_Next), one (slVP (dC 32) r7.1.f_Leaves)]), (aggVP [one (intVP .u32 a_2), bytesCk 32 a_3, bytesCk 32 a_4, one (intVP .i64 r7.2.1.f_Index), one (slVP (dC 32) r7.2.1.f_Parts), one (slVP (dC 32) r7.2.1.f_Others), one (slVP (dC 32) r7.2.1.f_Path)]), (intVP .i64 0)]) Tryd.results26 (by decide) ⟨(r_cell 0 3 rfl rfl Tryd.isAgg27 Tryd.sizeOf27 rfl), (r_cell 1 4 rfl rfl Tryd.isAgg53 Tryd.sizeOf53 rfl), (r_tmp 2 rfl), trivial⟩ [5] [(Log_e p_0 r7.2.2.2)] rfl rfl rfl⟩

def lamport_Opened.b1 (a_1 : List UInt8) (a_2 : List (List UInt8)) (a_3 : List (List UInt8)) (x13 : Int) (x14 : Option O_Log) (x15 : List (List UInt8)) : Option (Flow ((List UInt8) × Bool × (Option O_Log)) (Int × (Option O_Log) × (List (List UInt8)))) := (if (decide (x13 < (32 : Int))) = true then ((lamport_Bit a_1 x13).bind fun r27 => (if (0 : Int) ≤ x13 ∧ x13 < a_2.length then ((lamport_Public x14 (a_2.getD x13.toNat default)).bind fun r29 => (if (0 : Int) ≤ IntKind.wrap .i64 ((IntKind.wrap .i64 (2 * x13)) + r27) ∧ IntKind.wrap .i64 ((IntKind.wrap .i64 (2 * x13)) + r27) < 64 then (if (0 : Int) ≤ x13 ∧ x13 < a_3.length then (if (0 : Int) ≤ IntKind.wrap .i64 ((IntKind.wrap .i64 ((IntKind.wrap .i64 (2 * x13)) + 1)) - r27) ∧ IntKind.wrap .i64 ((IntKind.wrap .i64 ((IntKind.wrap .i64 (2 * x13)) + 1)) - r27) < 64 then some (.cont (IntKind.wrap .i64 (x13 + 1), r29.2, (x15.set (IntKind.wrap .i64 ((IntKind.wrap .i64 (2 * x13)) + r27)).toNat r29.1).set (IntKind.wrap .i64 ((IntKind.wrap .i64 ((IntKind.wrap .i64 (2 * x13)) + 1)) - r27)).toNat (a_3.getD x13.toNat default))) else none) else none) else none)) else none)) else some (.brk (x13, x14, x15)))
def lamport_Opened.j1 (L_0 : Option O_Log) (a_1 : List UInt8) (a_2 : List (List UInt8)) (a_3 : List (List UInt8)) (x3 : Bool) : Option ((List UInt8) × Bool × (Option O_Log)) := (if x3 = true then some ((List.replicate 32 0), false, L_0) else ((loopN (fun s : Int × (Option O_Log) × (List (List UInt8)) => lamport_Opened.b1 a_1 a_2 a_3 s.1 s.2.1 s.2.2) ((32 - 0 : Int).toNat + 2) (0, L_0, (List.replicate 64 (List.replicate 32 0)))).bind fun cr => match cr with | .ret r => some r | .next (y37, y38, y39) => ((lamport_pair y38 y39).bind fun r40 => some (r40.1, true, r40.2))))
def lamport_Opened (L_0 : Option O_Log) (a_1 : List UInt8) (a_2 : List (List UInt8)) (a_3 : List (List UInt8)) : Option ((List UInt8) × Bool × (Option O_Log)) := (if (!decide ((a_2.length : Int) = (32 : Int))) = true then lamport_Opened.j1 L_0 a_1 a_2 a_3 true else lamport_Opened.j1 L_0 a_1 a_2 a_3 (!decide ((a_3.length : Int) = (32 : Int))))
theorem lamport_Opened_ok {p_0 : Value} {L_0 : Option O_Log} {a_1 : List UInt8} {a_2 : List (List UInt8)} {a_3 : List (List UInt8)} {r : (List UInt8) × Bool × (Option O_Log)} (hF : lamport_Opened L_0 a_1 a_2 a_3 = some r) : CallOk Tryd.prog KG 53 [(eqVP p_0), (aggVP [bytesCk 32 a_1]), (slVP (dC 32) a_2), (slVP (dC 32) a_3)] [(Log_e p_0 L_0)] (fun _ => [Log_e p_0 r.2.2]) (tupVP [(aggVP [bytesCk 32 r.1]), (boolVP r.2.1)]) := by
  refine CallOk.intro 53 Tryd.func53 rfl Tryd.ntmps53 (Nat.le_of_ble_eq_true rfl) ?_
  intro c a w hG hn h
  unfold lamport_Opened at hF
  change SatL c [.slot 0 (eqVP p_0), .slot 1 (aggVP [bytesCk 32 a_1]), .slot 2 (slVP (dC 32) a_2), .slot 3 (slVP (dC 32) a_3), .res (Log_e p_0 L_0)] a w at h
  refine regS mixed hn hG h [0, 2, 3, 504, 502, 4, 503, 501] (ob [1] (op_box q0 (cells_agg _)) <| ob [] (op_alloc Tryd.zeroValue23 z23) <| ov [] (op_assign qb) .nil) fun b1 a w h => ?_
  refine wp_seq ?_
  refine wp_seq ?_
  refine wp_cut (fun a w => ∃ (x3 : Bool), lamport_Opened.j1 L_0 a_1 a_2 a_3 x3 = some r ∧ SatL c [.slot 0 (eqVP p_0), .slot 2 (slVP (dC 32) a_2), .slot 3 (slVP (dC 32) a_3), .slot 5 (lpVP (b1 0) 0), .slot 8 (lpVP (b1 1) 0), .slot 20 (boolVP x3), .res (Log_e p_0 L_0), .res (lb (b1 0) 23 [bytesCk 32 a_1]), .res (lb (b1 1) 23 [bytesCk 32 (List.replicate 32 0)])] a w) ?_ ?_
  · rcases Bool.eq_false_or_eq_true (!decide ((a_2.length : Int) = (32 : Int))) with hb41 | hb41
    · replace hF := tt_of hb41 hF
      refine reg mixed hn hG h [0, 1, 2, 3, 4, 500, 5, 6, 7] (ov [1] (op_move q0) <| ov [500] (op_len_sl Tryd.underlying24 q0) <| ov [500] (op_bin bin_neq q0 qi) <| ov [500] (op_move q0) <| oe [500] [] (GOk.off_v (want := false) hb41 rfl rfl rfl rfl) <| oe [501] [] (GOk.off_v (want := false) hb41 rfl rfl rfl rfl) <| oe [502] [] (GOk.off_v (want := false) hb41 rfl rfl rfl rfl) <| ov [503] (op_pick_t hb41 q0 qb) .nil) fun _ a w h => ?_
      exact ⟨true, hF, h.sub [0, 1, 2, 3, 4, 5, 6, 7, 8] (by rfl)⟩
    · replace hF := ff_of hb41 hF
      refine reg mixed hn hG h [0, 1, 2, 3, 4, 500, 5, 6, 7] (ov [1] (op_move q0) <| ov [500] (op_len_sl Tryd.underlying24 q0) <| ov [500] (op_bin bin_neq q0 qi) <| ov [500] (op_move q0) <| oe [500, 2] [] (GOk.on_eq hb41 rfl rfl rfl (op_move q0)) <| oe [501, 500] [] (GOk.on_eq hb41 rfl rfl rfl (op_len_sl Tryd.underlying24 q0)) <| oe [502, 500] [] (GOk.on_eq hb41 rfl rfl rfl (op_bin bin_neq q0 qi)) <| ov [503, 500] (op_pick_f hb41 q0 q1) .nil) fun _ a w h => ?_
      exact ⟨!decide ((a_3.length : Int) = (32 : Int)), hF, h.sub [0, 1, 2, 3, 4, 5, 6, 7, 8] (by rfl)⟩
  · clear h hF
    rintro a w ⟨x3, hF, h⟩
    unfold lamport_Opened.j1 at hF
    show Code.wp Tryd.prog _ _ a w
    refine cnd h hF 5 [4, 6, 8] [0, 1, 2, 3, 4, 6, 7, 8] (fun hb4 hF h => ?_) (fun hb4 hF h => ?_)
    · refine regS mixed hn hG h [0, 500, 1, 501] (ov [] (build0 Tryd.zeroValue23 Tryd.underlying23 Tryd.sizeOf5 z23) <| ou [0, 500] 2 (op_store_w Tryd.sizeOf23 q0 q1 (cells_agg _)) <| ov [] (op_assign qb) .nil) fun _ a w h => ?_
      refine wp_ret ?_
      obtain rfl := Option.some.inj hF
      exact ⟨.inl rfl, retn h (rs := [.cell 8 23, .tmp 9]) (Vs := [(aggVP [bytesCk 32 (List.replicate 32 0)]), (boolVP false)]) Tryd.results53 (by decide) ⟨(r_cell 0 3 rfl rfl Tryd.isAgg23 Tryd.sizeOf23 rfl), (r_tmp 1 rfl), trivial⟩ [2] [(Log_e p_0 L_0)] rfl rfl rfl⟩
    · refine wp_skip ?_
      show Code.wp Tryd.prog _ _ a w
      refine regS mixed hn hG h [0, 1, 2, 3, 4, 501, 5, 6, 7, 500] (ob [] (op_alloc Tryd.zeroValue122 z122) .nil) fun b5 a w h => ?_
      refine wp_seq ?_
      refine regS mixed hn hG h [0, 1, 2, 3, 4, 5, 500, 6, 7, 8, 9] (ov [] (op_move qi) .nil) fun _ a w h => ?_
      refine wp_block ?_
      obtain ⟨cr33, hl34, hF⟩ := bind_some hF
      refine wp_mono (wp_loopN (R := (List UInt8) × Bool × (Option O_Log)) (S := Int × (Option O_Log) × (List (List UInt8))) (fun s a w => SatL c [.slot 0 (eqVP p_0), .slot 2 (slVP (dC 32) a_2), .slot 3 (slVP (dC 32) a_3), .slot 5 (lpVP (b1 0) 0), .slot 8 (lpVP (b1 1) 0), .slot 10 (lpVP (b5 0) 0), .slot 22 (intVP .i64 s.1), .res (Log_e p_0 s.2.1), .res (lb (b1 0) 23 [bytesCk 32 a_1]), .res (lb (b1 1) 23 [bytesCk 32 (List.replicate 32 0)]), .res (lb (b5 0) 122 [arrCk 64 32 (dC 32) (lens_dC 32) s.2.2])] a w) (fun res e a w => match res with | .next s => e = .exit 0 ∧ SatL c [.slot 0 (eqVP p_0), .slot 8 (lpVP (b1 1) 0), .slot 10 (lpVP (b5 0) 0), .res (Log_e p_0 s.2.1), .res (lb (b1 1) 23 [bytesCk 32 (List.replicate 32 0)]), .res (lb (b5 0) 122 [arrCk 64 32 (dC 32) (lens_dC 32) s.2.2])] a w | .ret r => e = .ret ∧ RetOk Tryd.prog Tryd.f53 c (tupVP [(aggVP [bytesCk 32 r.1]), (boolVP r.2.1)]) (fun _ => [Log_e p_0 r.2.2]) a w) ?_ _ (0, L_0, (List.replicate 64 (List.replicate 32 0))) _ _ _ (h.sub [0, 1, 2, 3, 4, 5, 6, 7, 8, 9, 10] (by rfl)) hl34) ?_
      · clear hl34 hF h
        intro s a w o h hF
        obtain ⟨x13, x14, x15⟩ := s
        change lamport_Opened.b1 a_1 a_2 a_3 x13 x14 x15 = some o at hF
        unfold lamport_Opened.b1 at hF
        change SatL c [.slot 0 (eqVP p_0), .slot 2 (slVP (dC 32) a_2), .slot 3 (slVP (dC 32) a_3), .slot 5 (lpVP (b1 0) 0), .slot 8 (lpVP (b1 1) 0), .slot 10 (lpVP (b5 0) 0), .slot 22 (intVP .i64 x13), .res (Log_e p_0 x14), .res (lb (b1 0) 23 [bytesCk 32 a_1]), .res (lb (b1 1) 23 [bytesCk 32 (List.replicate 32 0)]), .res (lb (b5 0) 122 [arrCk 64 32 (dC 32) (lens_dC 32) x15])] a w at h
        refine regS mixed hn hG h [0, 1, 2, 3, 4, 5, 6, 500, 7, 8, 9, 10] (ov [6] (op_bin bin_lss q0 qi) .nil) fun _ a w h => ?_
        refine wp_seq ?_
        refine cnd h hF 7 [0, 1, 2, 3, 4, 5, 6, 8, 9, 10, 11] [0, 1, 2, 3, 4, 5, 6, 8, 9, 10, 11] (fun hb26 hF h => ?_) (fun hb26 hF h => ?_)
        · refine wp_skip ?_
          show Code.wp Tryd.prog _ _ a w
          refine wp_seq ?_
          refine wp_block ?_
          refine regS mixed hn hG h [0, 1, 2, 3, 4, 5, 500, 6, 7, 8, 9, 10] (ov [6] (op_move q0) <| ov [500] (op_assign q0) .nil) fun _ a w h => ?_
          obtain ⟨r27, hr27, hF⟩ := bind_some hF
          refine regS mixed hn hG h [0, 1, 2, 3, 4, 5, 6, 500, 7, 8, 9, 10, 11] (ov [3, 9] (op_load_w 1 Tryd.isAgg23 Tryd.sizeOf23 q0) <| ov [6] (op_move q0) <| oc [501, 500] [] Tryd.call72 (lamport_Bit_ok hr27) ⟨q0, q1, trivial⟩ <| ov [500] (op_assign q0) .nil) fun _ a w h => ?_
          obtain ⟨hv28, hF⟩ := ite_some hF
          obtain ⟨r29, hr29, hF⟩ := bind_some hF
          obtain ⟨hv30, hF⟩ := ite_some hF
          refine regS mixed hn hG h [0, 1, 2, 3, 4, 5, 6, 7, 8, 10, 11, 500, 502] (ov [6] (op_move q0) <| ov [500] (op_bin bin_mul qi q0) <| ov [7] (op_move q0) <| ov [501, 500] (op_bin bin_add q0 q1) <| ov [0] (op_move q0) <| ov [1] (op_move q0) <| ov [6] (op_move q0) <| ov [501, 500] (op_indexAddr_sl Tryd.underlying24 Tryd.sizeOf23 (lens_dC 32) q0 q1 hv28) <| ov [500] (op_load_pp [bytesCk 32 (a_2.getD x13.toNat default)] [] Tryd.isAgg23 Tryd.sizeOf23 q0 rfl) <| oc [504, 500] [9] Tryd.call68 (lamport_Public_ok hr29) ⟨q0, q1, trivial⟩ <| ov [5, 507] (op_indexAddr_lb Tryd.underlying122 Tryd.sizeOf23 q0 q1 hv30) <| ou [500, 502] 12 (op_store_lbA (i := IntKind.wrap .i64 ((IntKind.wrap .i64 (2 * x13)) + r27)) [] [] Tryd.sizeOf23 q0 q1 rfl hv30) .nil) fun _ a w h => ?_
          obtain ⟨hv31, hF⟩ := ite_some hF
          obtain ⟨hv32, hF⟩ := ite_some hF
          refine reg mixed hn hG h [0, 1, 2, 3, 4, 5, 8, 9, 10, 500, 12] (ov [6] (op_move q0) <| ov [500] (op_bin bin_mul qi q0) <| ov [500] (op_bin bin_add q0 qi) <| ov [7] (op_move q0) <| ov [501, 500] (op_bin bin_sub q0 q1) <| ov [2] (op_move q0) <| ov [6] (op_move q0) <| ov [501, 500] (op_indexAddr_sl Tryd.underlying24 Tryd.sizeOf23 (lens_dC 32) q0 q1 hv31) <| ov [500] (op_load_pp [bytesCk 32 (a_3.getD x13.toNat default)] [] Tryd.isAgg23 Tryd.sizeOf23 q0 rfl) <| ov [5, 504] (op_indexAddr_lb Tryd.underlying122 Tryd.sizeOf23 q0 q1 hv32) <| ou [500, 501] 11 (op_store_lbA (i := IntKind.wrap .i64 ((IntKind.wrap .i64 ((IntKind.wrap .i64 (2 * x13)) + 1)) - r27)) [] [] Tryd.sizeOf23 q0 q1 rfl hv32) .nil) fun _ a w h => ?_
          show Code.wp Tryd.prog _ _ a w
          refine reg mixed hn hG h [0, 1, 2, 3, 4, 5, 500, 7, 8, 9, 10] (ov [6] (op_bin bin_add q0 qi) <| od [500] 6 (op_move q0) .nil) fun _ a w h => ?_
          obtain rfl := Option.some.inj hF
          exact ⟨rfl, h.sub [0, 1, 2, 3, 4, 5, 6, 10, 7, 8, 9] (by rfl)⟩
        · refine wp_exit ?_
          obtain rfl := Option.some.inj hF
          exact ⟨exit_ne _, rfl, h.sub [0, 4, 5, 7, 9, 10] (by rfl)⟩
      · clear hl34
        intro e a w hq
        cases cr33 with
        | ret r35 =>
          obtain ⟨rfl, hq⟩ := hq
          obtain rfl := Option.some.inj hF
          exact ⟨.inl rfl, hq⟩
        | next s36 =>
          obtain ⟨y37, y38, y39⟩ := s36
          obtain ⟨rfl, h⟩ := hq
          change SatL c [.slot 0 (eqVP p_0), .slot 8 (lpVP (b1 1) 0), .slot 10 (lpVP (b5 0) 0), .res (Log_e p_0 y38), .res (lb (b1 1) 23 [bytesCk 32 (List.replicate 32 0)]), .res (lb (b5 0) 122 [arrCk 64 32 (dC 32) (lens_dC 32) y39])] a w at h
          refine inBlock_at ?_
          show Code.wp Tryd.prog _ _ a w
          obtain ⟨r40, hr40, hF⟩ := bind_some hF
          refine regS mixed hn hG h [1, 500, 501, 502] (ov [0] (op_move q0) <| ov [2, 5] (op_load_w 1 Tryd.isAgg122 Tryd.sizeOf122 q0) <| oc [501, 500] [3] Tryd.call70 (lamport_pair_ok hr40) ⟨q0, q1, trivial⟩ <| ou [1, 501] 4 (op_store_w Tryd.sizeOf23 q0 q1 (cells_agg _)) <| ov [] (op_assign qb) .nil) fun _ a w h => ?_
          refine wp_ret ?_
          obtain rfl := Option.some.inj hF
          exact ⟨.inl rfl, retn h (rs := [.cell 8 23, .tmp 9]) (Vs := [(aggVP [bytesCk 32 r40.1]), (boolVP true)]) Tryd.results53 (by decide) ⟨(r_cell 0 2 rfl rfl Tryd.isAgg23 Tryd.sizeOf23 rfl), (r_tmp 1 rfl), trivial⟩ [3] [(Log_e p_0 r40.2)] rfl rfl rfl⟩

def keys_Climb.j1 (x10 : Int) (x11 : Int) (x30 : List UInt8) (x31 : Option O_Log) : Option (Flow ((List UInt8) × (Option O_Log)) (Int × Int × (Option O_Log) × (List UInt8))) := some (.cont (shr .i64 x10 1, IntKind.wrap .i64 (x11 + 1), x31, x30))
def keys_Climb.b1 (a_3 : List (List UInt8)) (x10 : Int) (x11 : Int) (x12 : Option O_Log) (x13 : List UInt8) : Option (Flow ((List UInt8) × (Option O_Log)) (Int × Int × (Option O_Log) × (List UInt8))) := (if (decide (x11 < (a_3.length : Int))) = true then (if (0 : Int) ≤ x11 ∧ x11 < a_3.length then (if (decide ((bits .and .i64 x10 1) = (1 : Int))) = true then ((digest_Log_Two x12 4 (a_3.getD x11.toNat default) x13).bind fun r33 => keys_Climb.j1 x10 x11 r33.1 r33.2) else ((digest_Log_Two x12 4 x13 (a_3.getD x11.toNat default)).bind fun r34 => keys_Climb.j1 x10 x11 r34.1 r34.2)) else none) else some (.brk (x10, x11, x12, x13)))
def keys_Climb (L_0 : Option O_Log) (a_1 : List UInt8) (a_2 : Int) (a_3 : List (List UInt8)) : Option ((List UInt8) × (Option O_Log)) := ((loopN (fun s : Int × Int × (Option O_Log) × (List UInt8) => keys_Climb.b1 a_3 s.1 s.2.1 s.2.2.1 s.2.2.2) (((a_3.length : Int) - 0 : Int).toNat + 2) (a_2, 0, L_0, a_1)).bind fun cr => match cr with | .ret r => some r | .next (y39, y40, y41, y42) => some (y42, y41))
theorem keys_Climb_ok {p_0 : Value} {L_0 : Option O_Log} {a_1 : List UInt8} {a_2 : Int} {a_3 : List (List UInt8)} {r : (List UInt8) × (Option O_Log)} (hF : keys_Climb L_0 a_1 a_2 a_3 = some r) : CallOk Tryd.prog KG 54 [(eqVP p_0), (aggVP [bytesCk 32 a_1]), (intVP .i64 a_2), (slVP (dC 32) a_3)] [(Log_e p_0 L_0)] (fun _ => [Log_e p_0 r.2]) (aggVP [bytesCk 32 r.1]) := by
  refine CallOk.intro 32 Tryd.func54 rfl Tryd.ntmps54 (Nat.le_of_ble_eq_true rfl) ?_
  intro c a w hG hn h
  unfold keys_Climb at hF
  change SatL c [.slot 0 (eqVP p_0), .slot 1 (aggVP [bytesCk 32 a_1]), .slot 2 (intVP .i64 a_2), .slot 3 (slVP (dC 32) a_3), .res (Log_e p_0 L_0)] a w at h
  refine regS mixed hn hG h [0, 2, 3, 503, 501, 4, 502, 500] (ob [1] (op_box q0 (cells_agg _)) <| ob [] (op_alloc Tryd.zeroValue23 z23) .nil) fun b1 a w h => ?_
  refine wp_seq ?_
  refine regS mixed hn hG h [0, 1, 3, 4, 502, 501, 500, 5, 6, 7] (ov [2] (op_move q0) <| ov [500] (op_len_sl Tryd.underlying24 q0) <| ov [] (op_move qi) .nil) fun _ a w h => ?_
  refine wp_block ?_
  obtain ⟨cr35, hl36, hF⟩ := bind_some hF
  refine wp_mono (wp_loopN (R := (List UInt8) × (Option O_Log)) (S := Int × Int × (Option O_Log) × (List UInt8)) (fun s a w => SatL c [.slot 0 (eqVP p_0), .slot 2 (intVP .i64 s.1), .slot 5 (lpVP (b1 0) 0), .slot 8 (lpVP (b1 1) 0), .slot 11 (slVP (dC 32) a_3), .slot 12 (intVP .i64 (a_3.length : Int)), .slot 13 (intVP .i64 s.2.1), .res (Log_e p_0 s.2.2.1), .res (lb (b1 0) 23 [bytesCk 32 s.2.2.2]), .res (lb (b1 1) 23 [bytesCk 32 (List.replicate 32 0)])] a w) (fun res e a w => match res with | .next s => e = .exit 0 ∧ SatL c [.slot 5 (lpVP (b1 0) 0), .slot 8 (lpVP (b1 1) 0), .res (Log_e p_0 s.2.2.1), .res (lb (b1 0) 23 [bytesCk 32 s.2.2.2]), .res (lb (b1 1) 23 [bytesCk 32 (List.replicate 32 0)])] a w | .ret r => e = .ret ∧ RetOk Tryd.prog Tryd.f54 c (aggVP [bytesCk 32 r.1]) (fun _ => [Log_e p_0 r.2]) a w) ?_ _ (a_2, 0, L_0, a_1) _ _ _ (h.sub [0, 1, 2, 3, 4, 5, 6, 7, 8, 9] (by rfl)) hl36) ?_
  · clear hl36 hF h
    intro s a w o h hF
    obtain ⟨x10, x11, x12, x13⟩ := s
    change keys_Climb.b1 a_3 x10 x11 x12 x13 = some o at hF
    unfold keys_Climb.b1 at hF
    change SatL c [.slot 0 (eqVP p_0), .slot 2 (intVP .i64 x10), .slot 5 (lpVP (b1 0) 0), .slot 8 (lpVP (b1 1) 0), .slot 11 (slVP (dC 32) a_3), .slot 12 (intVP .i64 (a_3.length : Int)), .slot 13 (intVP .i64 x11), .res (Log_e p_0 x12), .res (lb (b1 0) 23 [bytesCk 32 x13]), .res (lb (b1 1) 23 [bytesCk 32 (List.replicate 32 0)])] a w at h
    refine regS mixed hn hG h [0, 1, 2, 3, 4, 5, 6, 500, 7, 8, 9] (ov [6, 5] (op_bin bin_lss q0 q1) .nil) fun _ a w h => ?_
    refine wp_seq ?_
    refine cnd h hF 7 [0, 1, 2, 3, 4, 5, 6, 8, 9, 10] [0, 1, 2, 3, 4, 5, 6, 8, 9, 10] (fun hb25 hF h => ?_) (fun hb25 hF h => ?_)
    · refine wp_skip ?_
      show Code.wp Tryd.prog _ _ a w
      refine wp_seq ?_
      refine wp_block ?_
      obtain ⟨hv26, hF⟩ := ite_some hF
      refine regS mixed hn hG h [0, 1, 2, 3, 502, 4, 5, 6, 7, 8, 9, 500] (ov [4, 6] (op_indexAddr_sl Tryd.underlying24 Tryd.sizeOf23 (lens_dC 32) q0 q1 hv26) <| ov [500] (op_load_pp [bytesCk 32 (a_3.getD x11.toNat default)] [] Tryd.isAgg23 Tryd.sizeOf23 q0 rfl) <| ob [] (op_alloc Tryd.zeroValue23 z23) <| og [501, 502] [500] [.res 2 100000 (fun v1_ _ => (lb (v1_) 23 [bytesCk 32 (a_3.getD x11.toNat default)]))] (GOk.plain (op_store_w Tryd.sizeOf23 q0 q1 (cells_agg _)) rfl) .nil) fun b27 a w h => ?_
      refine wp_seq ?_
      refine regS mixed hn hG h [0, 1, 2, 3, 4, 5, 6, 7, 500, 8, 9, 10, 11] (ov [1] (op_move q0) <| ov [500] (op_bin bin_and q0 qi) <| ov [500] (op_bin bin_eql q0 qi) .nil) fun _ a w h => ?_
      refine wp_cut (fun a w => ∃ (x30 : List UInt8), ∃ (x31 : Option O_Log), keys_Climb.j1 x10 x11 x30 x31 = some o ∧ SatL c [.slot 0 (eqVP p_0), .slot 2 (intVP .i64 x10), .slot 5 (lpVP (b1 0) 0), .slot 8 (lpVP (b1 1) 0), .slot 11 (slVP (dC 32) a_3), .slot 12 (intVP .i64 (a_3.length : Int)), .slot 13 (intVP .i64 x11), .res (lb (b1 0) 23 [bytesCk 32 x30]), .res (lb (b1 1) 23 [bytesCk 32 (List.replicate 32 0)]), .res (Log_e p_0 x31)] a w) ?_ ?_
      · refine cnd h hF 8 [0, 1, 2, 3, 4, 5, 6, 7, 9, 10, 11, 12] [0, 1, 2, 3, 4, 5, 6, 7, 9, 10, 11, 12] (fun hb32 hF h => ?_) (fun hb32 hF h => ?_)
        · obtain ⟨r33, hr33, hF⟩ := bind_some hF
          refine reg mixed hn hG h [0, 1, 2, 3, 5, 6, 7, 500, 10, 501] (ov [0] (op_move q0) <| ov [4, 11] (op_load_w 1 Tryd.isAgg23 Tryd.sizeOf23 q0) <| ov [2, 9] (op_load_w 1 Tryd.isAgg23 Tryd.sizeOf23 q0) <| oc [502, 501, 500] [8] Tryd.call71 (digest_Log_Two_ok hr33) ⟨q0, qi, q1, q2, trivial⟩ <| ou [2, 501] 9 (op_store_w Tryd.sizeOf23 q0 q1 (cells_agg _)) .nil) fun _ a w h => ?_
          exact ⟨r33.1, r33.2, hF, h.sub [0, 1, 2, 3, 4, 5, 6, 7, 8, 9] (by rfl)⟩
        · obtain ⟨r34, hr34, hF⟩ := bind_some hF
          refine reg mixed hn hG h [0, 1, 2, 3, 5, 6, 7, 500, 10, 501] (ov [0] (op_move q0) <| ov [2, 9] (op_load_w 1 Tryd.isAgg23 Tryd.sizeOf23 q0) <| ov [4, 11] (op_load_w 1 Tryd.isAgg23 Tryd.sizeOf23 q0) <| oc [502, 501, 500] [8] Tryd.call71 (digest_Log_Two_ok hr34) ⟨q0, qi, q1, q2, trivial⟩ <| ou [2, 501] 9 (op_store_w Tryd.sizeOf23 q0 q1 (cells_agg _)) .nil) fun _ a w h => ?_
          exact ⟨r34.1, r34.2, hF, h.sub [0, 1, 2, 3, 4, 5, 6, 7, 8, 9] (by rfl)⟩
      · clear h hF
        rintro a w ⟨x30, x31, hF, h⟩
        unfold keys_Climb.j1 at hF
        show Code.wp Tryd.prog _ _ a w
        refine reg mixed hn hG h [0, 500, 2, 3, 4, 5, 6, 7, 8, 9] (ov [1] (op_move q0) <| ov [500] (op_bin (bin_shru rfl) q0 qi) <| od [500] 1 (op_assign q0) .nil) fun _ a w h => ?_
        show Code.wp Tryd.prog _ _ a w
        refine reg mixed hn hG h [0, 1, 2, 3, 4, 5, 500, 7, 8, 9] (ov [6] (op_bin bin_add q0 qi) <| od [500] 6 (op_move q0) .nil) fun _ a w h => ?_
        obtain rfl := Option.some.inj hF
        exact ⟨rfl, h.sub [0, 1, 2, 3, 4, 5, 6, 9, 7, 8] (by rfl)⟩
    · refine wp_exit ?_
      obtain rfl := Option.some.inj hF
      exact ⟨exit_ne _, rfl, h.sub [2, 3, 7, 8, 9] (by rfl)⟩
  · clear hl36
    intro e a w hq
    cases cr35 with
    | ret r37 =>
      obtain ⟨rfl, hq⟩ := hq
      obtain rfl := Option.some.inj hF
      exact ⟨.inl rfl, hq⟩
    | next s38 =>
      obtain ⟨y39, y40, y41, y42⟩ := s38
      obtain ⟨rfl, h⟩ := hq
      change SatL c [.slot 5 (lpVP (b1 0) 0), .slot 8 (lpVP (b1 1) 0), .res (Log_e p_0 y41), .res (lb (b1 0) 23 [bytesCk 32 y42]), .res (lb (b1 1) 23 [bytesCk 32 (List.replicate 32 0)])] a w at h
      refine inBlock_at ?_
      show Code.wp Tryd.prog _ _ a w
      refine regS mixed hn hG h [1, 2, 500] (ov [0, 3] (op_load_w 1 Tryd.isAgg23 Tryd.sizeOf23 q0) <| ou [1, 500] 4 (op_store_w Tryd.sizeOf23 q0 q1 (cells_agg _)) .nil) fun _ a w h => ?_
      refine wp_ret ?_
      obtain rfl := Option.some.inj hF
      exact ⟨.inl rfl, ret1 h Tryd.results54 (r_cell 0 2 rfl rfl Tryd.isAgg23 Tryd.sizeOf23 rfl) [1] [(Log_e p_0 y41)] rfl rfl rfl⟩

def keys_Verify.j2 (x9 : Bool) (x10 : Option O_Log) : Option (Bool × (Option O_Log)) := some (x9, x10)
def keys_Verify.j1 (L_0 : Option O_Log) (a_1 : List UInt8) (a_2 : List UInt8) (a_3 : S_api_Sig) (x4 : Bool) : Option (Bool × (Option O_Log)) := (if x4 = true then some (false, L_0) else ((lamport_Opened L_0 a_2 a_3.f_Parts a_3.f_Others).bind fun r6 => (if r6.2.1 = true then ((keys_Climb r6.2.2 r6.1 a_3.f_Index a_3.f_Path).bind fun r8 => keys_Verify.j2 (decide (r8.1 = a_1)) r8.2) else keys_Verify.j2 false r6.2.2)))
def keys_Verify (L_0 : Option O_Log) (a_1 : List UInt8) (a_2 : List UInt8) (a_3 : S_api_Sig) : Option (Bool × (Option O_Log)) := (if (decide (a_3.f_Index < (0 : Int))) = true then keys_Verify.j1 L_0 a_1 a_2 a_3 true else (if (decide ((16 : Int) ≤ a_3.f_Index)) = true then keys_Verify.j1 L_0 a_1 a_2 a_3 true else keys_Verify.j1 L_0 a_1 a_2 a_3 (!decide ((a_3.f_Path.length : Int) = (4 : Int)))))
theorem keys_Verify_ok {p_0 : Value} {L_0 : Option O_Log} {a_1 : List UInt8} {a_2 : List UInt8} {a_3 : S_api_Sig} {r : Bool × (Option O_Log)} (hF : keys_Verify L_0 a_1 a_2 a_3 = some r) : CallOk Tryd.prog KG 17 [(eqVP p_0), (aggVP [bytesCk 32 a_1]), (aggVP [bytesCk 32 a_2]), (aggVP [one (intVP .i64 a_3.f_Index), one (slVP (dC 32) a_3.f_Parts), one (slVP (dC 32) a_3.f_Others), one (slVP (dC 32) a_3.f_Path)])] [(Log_e p_0 L_0)] (fun _ => [Log_e p_0 r.2]) (boolVP r.1) := by
  refine CallOk.intro 47 Tryd.func17 rfl Tryd.ntmps17 (Nat.le_of_ble_eq_true rfl) ?_
  intro c a w hG hn h
  unfold keys_Verify at hF
  change SatL c [.slot 0 (eqVP p_0), .slot 1 (aggVP [bytesCk 32 a_1]), .slot 2 (aggVP [bytesCk 32 a_2]), .slot 3 (aggVP [one (intVP .i64 a_3.f_Index), one (slVP (dC 32) a_3.f_Parts), one (slVP (dC 32) a_3.f_Others), one (slVP (dC 32) a_3.f_Path)]), .res (Log_e p_0 L_0)] a w at h
  refine regS mixed hn hG h [0, 506, 504, 502, 4, 505, 503, 501] (ob [1] (op_box q0 (cells_agg _)) <| ob [2] (op_box q0 (cells_agg _)) <| ob [3] (op_box q0 (cells_agg _)) <| ov [] (op_assign qb) .nil) fun b1 a w h => ?_
  refine wp_seq ?_
  refine wp_seq ?_
  refine wp_cut (fun a w => ∃ (x4 : Bool), keys_Verify.j1 L_0 a_1 a_2 a_3 x4 = some r ∧ SatL c [.slot 0 (eqVP p_0), .slot 5 (lpVP (b1 0) 0), .slot 6 (lpVP (b1 1) 0), .slot 7 (lpVP (b1 2) 0), .slot 24 (boolVP x4), .res (Log_e p_0 L_0), .res (lb (b1 0) 23 [bytesCk 32 a_1]), .res (lb (b1 1) 23 [bytesCk 32 a_2]), .res (lb (b1 2) 31 [one (intVP .i64 a_3.f_Index), one (slVP (dC 32) a_3.f_Parts), one (slVP (dC 32) a_3.f_Others), one (slVP (dC 32) a_3.f_Path)])] a w) ?_ ?_
  · rcases Bool.eq_false_or_eq_true (decide (a_3.f_Index < (0 : Int))) with hb12 | hb12
    · replace hF := tt_of hb12 hF
      refine reg mixed hn hG h [0, 1, 2, 3, 500, 4, 5, 6, 7] (ov [3] (op_fieldAddr_lbm (p := (b1 2)) (n := 1) 0 0 Tryd.underlying31 rfl Tryd.sizeOf3 (by decide) q0 rfl) <| ov [500, 7] (op_load_lb1 [] [one (slVP (dC 32) a_3.f_Parts), one (slVP (dC 32) a_3.f_Others), one (slVP (dC 32) a_3.f_Path)] 1 Tryd.isAgg3 q0 rfl rfl) <| ov [500] (op_bin bin_lss q0 qi) <| ov [500] (op_move q0) <| oe [500] [] (GOk.off_v (want := false) hb12 rfl rfl rfl rfl) <| oe [501] [] (GOk.off_v (want := false) hb12 rfl rfl rfl rfl) <| oe [502] [] (GOk.off_v (want := false) hb12 rfl rfl rfl rfl) <| ov [503] (op_pick_t hb12 q0 qb) <| ov [500] (op_move q0) <| oe [500] [] (GOk.off_v (want := false) rfl rfl rfl rfl rfl) <| oe [501] [] (GOk.off_v (want := false) rfl rfl rfl rfl rfl) <| oe [502] [] (GOk.off_v (want := false) rfl rfl rfl rfl rfl) <| oe [503] [] (GOk.off_v (want := false) rfl rfl rfl rfl rfl) <| ov [504] (op_pick_t rfl q0 qb) .nil) fun _ a w h => ?_
      exact ⟨true, hF, h.sub [0, 1, 2, 3, 4, 5, 6, 7, 8] (by rfl)⟩
    · replace hF := ff_of hb12 hF
      rcases Bool.eq_false_or_eq_true (decide ((16 : Int) ≤ a_3.f_Index)) with hb13 | hb13
      · replace hF := tt_of hb13 hF
        refine reg mixed hn hG h [0, 1, 2, 3, 500, 4, 5, 6, 7] (ov [3] (op_fieldAddr_lbm (p := (b1 2)) (n := 1) 0 0 Tryd.underlying31 rfl Tryd.sizeOf3 (by decide) q0 rfl) <| ov [500, 7] (op_load_lb1 [] [one (slVP (dC 32) a_3.f_Parts), one (slVP (dC 32) a_3.f_Others), one (slVP (dC 32) a_3.f_Path)] 1 Tryd.isAgg3 q0 rfl rfl) <| ov [500] (op_bin bin_lss q0 qi) <| ov [500] (op_move q0) <| oe [500, 3] [] (GOk.on_eq hb12 rfl rfl rfl (op_fieldAddr_lbm (p := (b1 2)) (n := 1) 0 0 Tryd.underlying31 rfl Tryd.sizeOf3 (by decide) q0 rfl)) <| oe [501, 500, 7] [] (GOk.on_eq hb12 rfl rfl rfl (op_load_lb1 [] [one (slVP (dC 32) a_3.f_Parts), one (slVP (dC 32) a_3.f_Others), one (slVP (dC 32) a_3.f_Path)] 1 Tryd.isAgg3 q0 rfl rfl)) <| oe [502, 500] [] (GOk.on_eq hb12 rfl rfl rfl (op_bin bin_geq q0 qi)) <| ov [503, 500] (op_pick_f hb12 q0 q1) <| ov [500] (op_move q0) <| oe [500] [] (GOk.off_v (want := false) hb13 rfl rfl rfl rfl) <| oe [501] [] (GOk.off_v (want := false) hb13 rfl rfl rfl rfl) <| oe [502] [] (GOk.off_v (want := false) hb13 rfl rfl rfl rfl) <| oe [503] [] (GOk.off_v (want := false) hb13 rfl rfl rfl rfl) <| ov [504] (op_pick_t hb13 q0 qb) .nil) fun _ a w h => ?_
        exact ⟨true, hF, h.sub [0, 1, 2, 3, 4, 5, 6, 7, 8] (by rfl)⟩
      · replace hF := ff_of hb13 hF
        refine reg mixed hn hG h [0, 1, 2, 3, 500, 4, 5, 6, 7] (ov [3] (op_fieldAddr_lbm (p := (b1 2)) (n := 1) 0 0 Tryd.underlying31 rfl Tryd.sizeOf3 (by decide) q0 rfl) <| ov [500, 7] (op_load_lb1 [] [one (slVP (dC 32) a_3.f_Parts), one (slVP (dC 32) a_3.f_Others), one (slVP (dC 32) a_3.f_Path)] 1 Tryd.isAgg3 q0 rfl rfl) <| ov [500] (op_bin bin_lss q0 qi) <| ov [500] (op_move q0) <| oe [500, 3] [] (GOk.on_eq hb12 rfl rfl rfl (op_fieldAddr_lbm (p := (b1 2)) (n := 1) 0 0 Tryd.underlying31 rfl Tryd.sizeOf3 (by decide) q0 rfl)) <| oe [501, 500, 7] [] (GOk.on_eq hb12 rfl rfl rfl (op_load_lb1 [] [one (slVP (dC 32) a_3.f_Parts), one (slVP (dC 32) a_3.f_Others), one (slVP (dC 32) a_3.f_Path)] 1 Tryd.isAgg3 q0 rfl rfl)) <| oe [502, 500] [] (GOk.on_eq hb12 rfl rfl rfl (op_bin bin_geq q0 qi)) <| ov [503, 500] (op_pick_f hb12 q0 q1) <| ov [500] (op_move q0) <| oe [500, 3] [] (GOk.on_eq hb13 rfl rfl rfl (op_fieldAddr_lbm (p := (b1 2)) (n := 1) 0 3 Tryd.underlying31 rfl Tryd.sizeOf24 (by decide) q0 rfl)) <| oe [501, 500, 7] [] (GOk.on_eq hb13 rfl rfl rfl (op_load_lb1 [one (intVP .i64 a_3.f_Index), one (slVP (dC 32) a_3.f_Parts), one (slVP (dC 32) a_3.f_Others)] [] 1 Tryd.isAgg24 q0 rfl rfl)) <| oe [502, 500] [] (GOk.on_eq hb13 rfl rfl rfl (op_len_sl Tryd.underlying24 q0)) <| oe [503, 500] [] (GOk.on_eq hb13 rfl rfl rfl (op_bin bin_neq q0 qi)) <| ov [504, 500] (op_pick_f hb13 q0 q1) .nil) fun _ a w h => ?_
        exact ⟨!decide ((a_3.f_Path.length : Int) = (4 : Int)), hF, h.sub [0, 1, 2, 3, 4, 5, 6, 7, 8] (by rfl)⟩
  · clear h hF
    rintro a w ⟨x4, hF, h⟩
    unfold keys_Verify.j1 at hF
    show Code.wp Tryd.prog _ _ a w
    refine cnd h hF 4 [5] [0, 1, 2, 3, 5, 6, 7, 8] (fun hb5 hF h => ?_) (fun hb5 hF h => ?_)
    · refine regS mixed hn hG h [500, 0] (ov [] (op_assign qb) .nil) fun _ a w h => ?_
      refine wp_ret ?_
      obtain rfl := Option.some.inj hF
      exact ⟨.inl rfl, ret1 h Tryd.results17 (r_tmp 0 rfl) [1] [(Log_e p_0 L_0)] rfl rfl rfl⟩
    · refine wp_skip ?_
      show Code.wp Tryd.prog _ _ a w
      obtain ⟨r6, hr6, hF⟩ := bind_some hF
      refine regS mixed hn hG h [0, 1, 3, 503, 500, 5, 7, 507, 501] (ov [0] (op_move q0) <| ov [2, 6] (op_load_w 1 Tryd.isAgg23 Tryd.sizeOf23 q0) <| ov [3] (op_fieldAddr_lbm (p := (b1 2)) (n := 1) 0 1 Tryd.underlying31 rfl Tryd.sizeOf24 (by decide) q0 rfl) <| ov [500, 7] (op_load_lb1 [one (intVP .i64 a_3.f_Index)] [one (slVP (dC 32) a_3.f_Others), one (slVP (dC 32) a_3.f_Path)] 1 Tryd.isAgg24 q0 rfl rfl) <| ov [3] (op_fieldAddr_lbm (p := (b1 2)) (n := 1) 0 2 Tryd.underlying31 rfl Tryd.sizeOf24 (by decide) q0 rfl) <| ov [500, 7] (op_load_lb1 [one (intVP .i64 a_3.f_Index), one (slVP (dC 32) a_3.f_Parts)] [one (slVP (dC 32) a_3.f_Path)] 1 Tryd.isAgg24 q0 rfl rfl) <| oc [505, 504, 502, 500] [4] Tryd.call53 (lamport_Opened_ok hr6) ⟨q0, q1, q2, q3, trivial⟩ <| ov [501] (op_move q0) <| ov [500] (op_extract q0 rfl) <| ov [501] (op_extract q0 rfl) <| ob [] (op_alloc Tryd.zeroValue23 z23) <| og [501, 503] [500] [.res 10 100000 (fun v1_ _ => (lb (v1_) 23 [bytesCk 32 r6.1]))] (GOk.plain (op_store_w Tryd.sizeOf23 q0 q1 (cells_agg _)) rfl) <| ov [503] (op_assign q0) .nil) fun b7 a w h => ?_
      refine wp_seq ?_
      refine wp_cut (fun a w => ∃ (x9 : Bool), ∃ (x10 : Option O_Log), keys_Verify.j2 x9 x10 = some r ∧ SatL c [.slot 8 (boolVP x9), .res (Log_e p_0 x10)] a w) ?_ ?_
      · rcases Bool.eq_false_or_eq_true r6.2.1 with hb11 | hb11
        · replace hF := tt_of hb11 hF
          obtain ⟨r8, hr8, hF⟩ := bind_some hF
          refine reg mixed hn hG h [500, 504] (ov [4] (op_move q0) <| ov [500] (op_move q0) <| oe [500, 0] [] (GOk.on_eq hb11 rfl rfl rfl (op_move q0)) <| oe [501, 3, 8] [] (GOk.on_eq hb11 rfl rfl rfl (op_load_w 1 Tryd.isAgg23 Tryd.sizeOf23 q0)) <| oe [502, 2] [] (GOk.on_eq hb11 rfl rfl rfl (op_fieldAddr_lbm (p := (b1 2)) (n := 1) 0 0 Tryd.underlying31 rfl Tryd.sizeOf3 (by decide) q0 rfl)) <| oe [503, 500, 6] [] (GOk.on_eq hb11 rfl rfl rfl (op_load_lb1 [] [one (slVP (dC 32) a_3.f_Parts), one (slVP (dC 32) a_3.f_Others), one (slVP (dC 32) a_3.f_Path)] 1 Tryd.isAgg3 q0 rfl rfl)) <| oe [504, 2] [] (GOk.on_eq hb11 rfl rfl rfl (op_fieldAddr_lbm (p := (b1 2)) (n := 1) 0 3 Tryd.underlying31 rfl Tryd.sizeOf24 (by decide) q0 rfl)) <| oe [505, 500, 6] [] (GOk.on_eq hb11 rfl rfl rfl (op_load_lb1 [one (intVP .i64 a_3.f_Index), one (slVP (dC 32) a_3.f_Parts), one (slVP (dC 32) a_3.f_Others)] [] 1 Tryd.isAgg24 q0 rfl rfl)) <| oe [506, 505, 504, 502, 500] [7] (GOk.on_eq hb11 rfl rfl rfl (op_call Tryd.call54 (keys_Climb_ok hr8) ⟨q0, q1, q2, q3, trivial⟩)) <| oe [508, 1, 5] [] (GOk.on_eq hb11 rfl rfl rfl (op_load_w 1 Tryd.isAgg23 Tryd.sizeOf23 q0)) <| oe [509, 502, 500] [] (GOk.on_eq hb11 rfl rfl rfl (op_bin (bin_aeql Tryd.underlying23 Tryd.underlying5 Tryd.type5 Tryd.sizeOf5 Tryd.isAgg5 Tryd.eqGuardType23) q0 q1)) <| ov [510, 500] (op_pick_t hb11 q0 q1) <| ov [500] (op_assign q0) .nil) fun _ a w h => ?_
          exact ⟨decide (r8.1 = a_1), r8.2, hF, h.sub [0, 1] (by rfl)⟩
        · replace hF := ff_of hb11 hF
          refine reg mixed hn hG h [500, 7] (ov [4] (op_move q0) <| ov [500] (op_move q0) <| oe [500] [] (GOk.off_v (want := true) hb11 rfl rfl rfl rfl) <| oe [501] [] (GOk.off_v (want := true) hb11 rfl rfl rfl rfl) <| oe [502] [] (GOk.off_v (want := true) hb11 rfl rfl rfl rfl) <| oe [503] [] (GOk.off_v (want := true) hb11 rfl rfl rfl rfl) <| oe [504] [] (GOk.off_v (want := true) hb11 rfl rfl rfl rfl) <| oe [505] [] (GOk.off_v (want := true) hb11 rfl rfl rfl rfl) <| oe [506] [] (GOk.off_v (want := true) hb11 rfl rfl rfl rfl) <| oe [507] [] (GOk.off_v (want := true) hb11 rfl rfl rfl rfl) <| oe [508] [] (GOk.off_v (want := true) hb11 rfl rfl rfl rfl) <| ov [509] (op_pick_f hb11 q0 qb) <| ov [500] (op_assign q0) .nil) fun _ a w h => ?_
          exact ⟨false, r6.2.2, hF, h.sub [0, 1] (by rfl)⟩
      · clear h hF
        rintro a w ⟨x9, x10, hF, h⟩
        unfold keys_Verify.j2 at hF
        show Code.wp Tryd.prog _ _ a w
        refine wp_ret ?_
        obtain rfl := Option.some.inj hF
        exact ⟨.inl rfl, ret1 h Tryd.results17 (r_tmp 0 rfl) [1] [(Log_e p_0 x10)] rfl rfl rfl⟩

def update_Right (L_0 : Option O_Log) (a_1 : List UInt8) (a_2 : S_api_Update) : Option (Bool × (Option O_Log)) := ((update_Claim L_0 a_2.f_Home a_2.f_Old a_2.f_New).bind fun r3 => ((keys_Verify r3.2 a_1 r3.1 a_2.f_Sig).bind fun r4 => some (r4.1, r4.2)))
theorem update_Right_ok {p_0 : Value} {L_0 : Option O_Log} {a_1 : List UInt8} {a_2 : S_api_Update} {r : Bool × (Option O_Log)} (hF : update_Right L_0 a_1 a_2 = some r) : CallOk Tryd.prog KG 27 [(eqVP p_0), (aggVP [bytesCk 32 a_1]), (aggVP [one (intVP .u32 a_2.f_Home), bytesCk 32 a_2.f_Old, bytesCk 32 a_2.f_New, one (intVP .i64 a_2.f_Sig.f_Index), one (slVP (dC 32) a_2.f_Sig.f_Parts), one (slVP (dC 32) a_2.f_Sig.f_Others), one (slVP (dC 32) a_2.f_Sig.f_Path)])] [(Log_e p_0 L_0)] (fun _ => [Log_e p_0 r.2]) (boolVP r.1) := by
  refine CallOk.intro 20 Tryd.func27 rfl Tryd.ntmps27 (Nat.le_of_ble_eq_true rfl) ?_
  intro c a w hG hn h
  unfold update_Right at hF
  change SatL c [.slot 0 (eqVP p_0), .slot 1 (aggVP [bytesCk 32 a_1]), .slot 2 (aggVP [one (intVP .u32 a_2.f_Home), bytesCk 32 a_2.f_Old, bytesCk 32 a_2.f_New, one (intVP .i64 a_2.f_Sig.f_Index), one (slVP (dC 32) a_2.f_Sig.f_Parts), one (slVP (dC 32) a_2.f_Sig.f_Others), one (slVP (dC 32) a_2.f_Sig.f_Path)]), .res (Log_e p_0 L_0)] a w at h
  refine regS mixed hn hG h [0, 504, 502, 3, 503, 501] (ob [1] (op_box q0 (cells_agg _)) <| ob [2] (op_box q0 (cells_agg _)) <| ov [] (op_assign qb) .nil) fun b1 a w h => ?_
  obtain ⟨r3, hr3, hF⟩ := bind_some hF
  obtain ⟨r4, hr4, hF⟩ := bind_some hF
  refine regS mixed hn hG h [500, 501] (ov [0] (op_move q0) <| ov [1, 4] (op_load_w 1 Tryd.isAgg23 Tryd.sizeOf23 q0) <| ov [0] (op_move q0) <| ov [2] (op_fieldAddr_lbm (p := (b1 1)) (n := 1) 0 0 Tryd.underlying53 rfl Tryd.sizeOf51 (by decide) q0 rfl) <| ov [500, 5] (op_load_lb1 [] [bytesCk 32 a_2.f_Old, bytesCk 32 a_2.f_New, one (intVP .i64 a_2.f_Sig.f_Index), one (slVP (dC 32) a_2.f_Sig.f_Parts), one (slVP (dC 32) a_2.f_Sig.f_Others), one (slVP (dC 32) a_2.f_Sig.f_Path)] 1 Tryd.isAgg51 q0 rfl rfl) <| ov [2] (op_fieldAddr_lbm (p := (b1 1)) (n := 32) 0 1 Tryd.underlying53 rfl Tryd.sizeOf23 (by decide) q0 rfl) <| ov [500, 5] (op_load_lb [one (intVP .u32 a_2.f_Home)] [bytesCk 32 a_2.f_Old] [bytesCk 32 a_2.f_New, one (intVP .i64 a_2.f_Sig.f_Index), one (slVP (dC 32) a_2.f_Sig.f_Parts), one (slVP (dC 32) a_2.f_Sig.f_Others), one (slVP (dC 32) a_2.f_Sig.f_Path)] 1 Tryd.isAgg23 Tryd.sizeOf23 q0 rfl rfl rfl) <| ov [2] (op_fieldAddr_lbm (p := (b1 1)) (n := 32) 0 33 Tryd.underlying53 rfl Tryd.sizeOf23 (by decide) q0 rfl) <| ov [500, 5] (op_load_lb [one (intVP .u32 a_2.f_Home), bytesCk 32 a_2.f_Old] [bytesCk 32 a_2.f_New] [one (intVP .i64 a_2.f_Sig.f_Index), one (slVP (dC 32) a_2.f_Sig.f_Parts), one (slVP (dC 32) a_2.f_Sig.f_Others), one (slVP (dC 32) a_2.f_Sig.f_Path)] 1 Tryd.isAgg23 Tryd.sizeOf23 q0 rfl rfl rfl) <| oc [506, 504, 502, 500] [3] Tryd.call30 (update_Claim_ok hr3) ⟨q0, q1, q2, q3, trivial⟩ <| ov [2] (op_fieldAddr_lbm (p := (b1 1)) (n := 4) 0 65 Tryd.underlying53 rfl Tryd.sizeOf31 (by decide) q0 rfl) <| ov [500, 5] (op_load_lb [one (intVP .u32 a_2.f_Home), bytesCk 32 a_2.f_Old, bytesCk 32 a_2.f_New] [one (intVP .i64 a_2.f_Sig.f_Index), one (slVP (dC 32) a_2.f_Sig.f_Parts), one (slVP (dC 32) a_2.f_Sig.f_Others), one (slVP (dC 32) a_2.f_Sig.f_Path)] [] 1 Tryd.isAgg31 Tryd.sizeOf31 q0 rfl rfl rfl) <| oc [512, 511, 503, 500] [502] Tryd.call17 (keys_Verify_ok hr4) ⟨q0, q1, q2, q3, trivial⟩ <| ov [501] (op_assign q0) .nil) fun _ a w h => ?_
  refine wp_ret ?_
  obtain rfl := Option.some.inj hF
  exact ⟨.inl rfl, ret1 h Tryd.results27 (r_tmp 0 rfl) [1] [(Log_e p_0 r4.2)] rfl rfl rfl⟩

def law10_awake.j1 (x9 : Bool) (x10 : Option O_Log) : Option Bool := some x9
def law10_awake : Option Bool := ((keys_New none ([u8of 1] ++ List.replicate (32 - 1) 0)).bind fun r1 => ((update_Sign r1.2 r1.1 1 ([u8of 2] ++ List.replicate (32 - 1) 0) ([u8of 3] ++ List.replicate (32 - 1) 0)).bind fun r3 => (if (decide (r3.2.2.1 = (0 : Int))) = true then ((keys_Signer_Root r1.1 r3.2.2.2).bind fun r5 => ((update_Right r5.2 r5.1 r3.2.1).bind fun r6 => (if r6.1 = true then ((keys_Signer_Root r1.1 r6.2).bind fun r7 => ((update_Right r7.2 r7.1 (S_api_Update.mk (0 : Int) (List.replicate 32 0) (List.replicate 32 0) (S_api_Sig.mk (0 : Int) [] [] []))).bind fun r8 => law10_awake.j1 (!r8.1) r8.2)) else law10_awake.j1 false r6.2))) else law10_awake.j1 false r3.2.2.2)))
theorem law10_awake_ok {r : Bool} (hF : law10_awake = some r) : CallOk Tryd.prog KG 25 [] [] (fun _ => []) (boolVP r) := by
  refine CallOk.intro 30 Tryd.func25 rfl Tryd.ntmps25 (Nat.le_of_ble_eq_true rfl) ?_
  intro c a w hG hn h
  unfold law10_awake at hF
  change SatL c [] a w at h
  refine regS mixed hn hG h [] (ov [] (op_assign qb) .nil) fun _ a w h => ?_
  replace h := h.snoc Log_nil
  replace h := h.sub [0] (by rfl)
  change SatL c [.res (Log_e (.pointer none) none)] a w at h
  obtain ⟨r1, hr1, hF⟩ := bind_some hF
  refine regS mixed hn hG h [502, 503, 500] (ov [] (op_buildB (xs := [.const (.int .u8 1)]) (ys := [u8of 1]) rfl bu23 ⟨⟨_, qi, (cells_u8 _)⟩, trivial⟩ (by decide) rfl) <| oc [500] [0] Tryd.call12 (keys_New_ok hr1) ⟨(opc (ec _)), q0, trivial⟩ <| ob [] (op_alloc Tryd.zeroValue27 z27) <| og [501, 503] [500] [.res 2 100000 (fun v1_ _ => (lb (v1_) 27 [bytesCk 32 r1.1.f_Seed, one (intVP .i64 r1.1.f_Next), one (slVP (dC 32) r1.1.f_Leaves)]))] (GOk.plain (op_store_w Tryd.sizeOf27 q0 q1 (cells_agg _)) rfl) .nil) fun b2 a w h => ?_
  obtain ⟨r3, hr3, hF⟩ := bind_some hF
  refine regS mixed hn hG h [0, 504, 500, 2, 511, 501] (ov [0, 2] (op_load_w 1 Tryd.isAgg27 Tryd.sizeOf27 q0) <| ov [] (op_buildB (xs := [.const (.int .u8 2)]) (ys := [u8of 2]) rfl bu23 ⟨⟨_, qi, (cells_u8 _)⟩, trivial⟩ (by decide) rfl) <| ov [] (op_buildB (xs := [.const (.int .u8 3)]) (ys := [u8of 3]) rfl bu23 ⟨⟨_, qi, (cells_u8 _)⟩, trivial⟩ (by decide) rfl) <| oc [502, 501, 500] [1] Tryd.call26 (update_Sign_ok hr3) ⟨(opc (ec _)), q0, qi, q1, q2, trivial⟩ <| ov [501] (op_move q0) <| ov [500] (op_extract q0 rfl) <| ov [501] (op_extract q0 rfl) <| ov [502] (op_extract q0 rfl) <| ob [] (op_alloc Tryd.zeroValue27 z27) <| ob [] (op_alloc Tryd.zeroValue53 z53) <| og [503, 506] [502] [.res 8 100000 (fun v1_ _ => (lb (v1_) 27 [bytesCk 32 r3.1.f_Seed, one (intVP .i64 r3.1.f_Next), one (slVP (dC 32) r3.1.f_Leaves)]))] (GOk.plain (op_store_w Tryd.sizeOf27 q0 q1 (cells_agg _)) rfl) <| og [502, 506] [501] [.res 9 100000 (fun v1_ _ => (lb (v1_) 53 [one (intVP .u32 r3.2.1.f_Home), bytesCk 32 r3.2.1.f_Old, bytesCk 32 r3.2.1.f_New, one (intVP .i64 r3.2.1.f_Sig.f_Index), one (slVP (dC 32) r3.2.1.f_Sig.f_Parts), one (slVP (dC 32) r3.2.1.f_Sig.f_Others), one (slVP (dC 32) r3.2.1.f_Sig.f_Path)]))] (GOk.plain (op_store_w Tryd.sizeOf53 q0 q1 (cells_agg _)) rfl) <| ov [506] (op_assign q0) .nil) fun b4 a w h => ?_
  refine wp_seq ?_
  refine wp_cut (fun a w => ∃ (x9 : Bool), ∃ (x10 : Option O_Log), law10_awake.j1 x9 x10 = some r ∧ SatL c [.slot 0 (boolVP x9), .res (Log_e (.pointer none) x10)] a w) ?_ ?_
  · rcases Bool.eq_false_or_eq_true (decide (r3.2.2.1 = (0 : Int))) with hb11 | hb11
    · replace hF := tt_of hb11 hF
      obtain ⟨r5, hr5, hF⟩ := bind_some hF
      obtain ⟨r6, hr6, hF⟩ := bind_some hF
      rcases Bool.eq_false_or_eq_true r6.1 with hb12 | hb12
      · replace hF := tt_of hb12 hF
        obtain ⟨r7, hr7, hF⟩ := bind_some hF
        obtain ⟨r8, hr8, hF⟩ := bind_some hF
        refine reg mixed hn hG h [500, 503] (ov [2] (op_move q0) <| ov [500] (op_bin bin_eql q0 qi) <| ov [500] (op_move q0) <| oe [500, 0, 3] [] (GOk.on_eq hb11 rfl rfl rfl (op_load_w 1 Tryd.isAgg27 Tryd.sizeOf27 q0)) <| oe [501, 500] [4] (GOk.on_eq hb11 rfl rfl rfl (op_call Tryd.call13 (keys_Signer_Root_ok hr5) ⟨q0, (opc (ec _)), trivial⟩)) <| oe [503, 1, 5] [] (GOk.on_eq hb11 rfl rfl rfl (op_load_w 1 Tryd.isAgg53 Tryd.sizeOf53 q0)) <| oe [504, 502, 500] [501] (GOk.on_eq hb11 rfl rfl rfl (op_call Tryd.call27 (update_Right_ok hr6) ⟨(opc (ec _)), q0, q1, trivial⟩)) <| ov [506, 501] (op_pick_t hb11 q0 q1) <| ov [500] (op_move q0) <| oe [500, 0, 3] [] (GOk.on_eq hb12 rfl rfl rfl (op_load_w 1 Tryd.isAgg27 Tryd.sizeOf27 q0)) <| oe [501, 500] [503] (GOk.on_eq hb12 rfl rfl rfl (op_call Tryd.call13 (keys_Signer_Root_ok hr7) ⟨q0, (opc (ec _)), trivial⟩)) <| oe [503] [] (GOk.on_eq hb12 rfl rfl rfl (op_build [] rfl bu53 z53 rfl)) <| oe [504, 502, 500] [501] (GOk.on_eq hb12 rfl rfl rfl (op_call Tryd.call27 (update_Right_ok hr8) ⟨(opc (ec _)), q0, q1, trivial⟩)) <| oe [506, 501] [] (GOk.on_eq hb12 rfl rfl rfl (op_un (un_not _) q0)) <| ov [507, 500] (op_pick_t hb12 q0 q1) <| ov [500] (op_assign q0) .nil) fun _ a w h => ?_
        exact ⟨!r8.1, r8.2, hF, h.sub [0, 1] (by rfl)⟩
      · replace hF := ff_of hb12 hF
        refine reg mixed hn hG h [500, 509] (ov [2] (op_move q0) <| ov [500] (op_bin bin_eql q0 qi) <| ov [500] (op_move q0) <| oe [500, 0, 3] [] (GOk.on_eq hb11 rfl rfl rfl (op_load_w 1 Tryd.isAgg27 Tryd.sizeOf27 q0)) <| oe [501, 500] [4] (GOk.on_eq hb11 rfl rfl rfl (op_call Tryd.call13 (keys_Signer_Root_ok hr5) ⟨q0, (opc (ec _)), trivial⟩)) <| oe [503, 1, 5] [] (GOk.on_eq hb11 rfl rfl rfl (op_load_w 1 Tryd.isAgg53 Tryd.sizeOf53 q0)) <| oe [504, 502, 500] [501] (GOk.on_eq hb11 rfl rfl rfl (op_call Tryd.call27 (update_Right_ok hr6) ⟨(opc (ec _)), q0, q1, trivial⟩)) <| ov [506, 501] (op_pick_t hb11 q0 q1) <| ov [500] (op_move q0) <| oe [500] [] (GOk.off_v (want := true) hb12 rfl rfl rfl rfl) <| oe [501] [] (GOk.off_v (want := true) hb12 rfl rfl rfl rfl) <| oe [502] [] (GOk.off_v (want := true) hb12 rfl rfl rfl rfl) <| oe [503] [] (GOk.off_v (want := true) hb12 rfl rfl rfl rfl) <| oe [504] [] (GOk.off_v (want := true) hb12 rfl rfl rfl rfl) <| ov [505] (op_pick_f hb12 q0 qb) <| ov [500] (op_assign q0) .nil) fun _ a w h => ?_
        exact ⟨false, r6.2, hF, h.sub [0, 1] (by rfl)⟩
    · replace hF := ff_of hb11 hF
      refine reg mixed hn hG h [500, 4] (ov [2] (op_move q0) <| ov [500] (op_bin bin_eql q0 qi) <| ov [500] (op_move q0) <| oe [500] [] (GOk.off_v (want := true) hb11 rfl rfl rfl rfl) <| oe [501] [] (GOk.off_v (want := true) hb11 rfl rfl rfl rfl) <| oe [502] [] (GOk.off_v (want := true) hb11 rfl rfl rfl rfl) <| oe [503] [] (GOk.off_v (want := true) hb11 rfl rfl rfl rfl) <| ov [504] (op_pick_f hb11 q0 qb) <| ov [500] (op_move q0) <| oe [500] [] (GOk.off_v (want := true) rfl rfl rfl rfl rfl) <| oe [501] [] (GOk.off_v (want := true) rfl rfl rfl rfl rfl) <| oe [502] [] (GOk.off_v (want := true) rfl rfl rfl rfl rfl) <| oe [503] [] (GOk.off_v (want := true) rfl rfl rfl rfl rfl) <| oe [504] [] (GOk.off_v (want := true) rfl rfl rfl rfl rfl) <| ov [505] (op_pick_f rfl q0 qb) <| ov [500] (op_assign q0) .nil) fun _ a w h => ?_
      exact ⟨false, r3.2.2.2, hF, h.sub [0, 1] (by rfl)⟩
  · clear h hF
    rintro a w ⟨x9, x10, hF, h⟩
    unfold law10_awake.j1 at hF
    show Code.wp Tryd.prog _ _ a w
    refine wp_ret ?_
    obtain rfl := Option.some.inj hF
    exact ⟨.inl rfl, ret1 h Tryd.results25 (r_tmp 0 rfl) [] [] rfl rfl rfl⟩
end Go.Proofs.YtamnmljgcmbliaaDoor
