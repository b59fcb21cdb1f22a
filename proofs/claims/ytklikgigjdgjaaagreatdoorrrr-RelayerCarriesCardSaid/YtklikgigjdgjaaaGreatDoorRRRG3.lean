/- The functions' Lean twins and contracts, printed by this session's own program: part 3. -/
import Derived.Test.YtklikgigjdgjaaaGreatDoorRRRG2
namespace Go.Proofs.YtklikgigjdgjaaaGreatDoorRRR
open Go Go.RowKit Go.Proofs
set_option maxRecDepth 100000
set_option maxHeartbeats 4000000
set_option linter.unusedVariables false
def keys_New.b1 (a_1 : List UInt8) (x9 : Int) (x10 : Option O_Log) (x11 : Option S_keys_Signer) : Option (Flow (S_keys_Signer × (Option O_Log)) (Int × (Option O_Log) × (Option S_keys_Signer))) := (if (decide (x9 < (16 : Int))) = true then ((x11).bind fun s23 => ((lamport_Word x10 a_1 x9).bind fun r26 => (if s23.f_Leaves.length + [r26.1].length ≤ mxl ∧ (s23.f_Leaves.length + [r26.1].length) * 32 ≤ 140737488355328 then some (.cont (IntKind.wrap .i64 (x9 + 1), r26.2, (some ⟨s23.f_Seed, s23.f_Next, s23.f_Leaves ++ [r26.1]⟩))) else none))) else some (.brk (x9, x10, x11)))
def keys_New (L_0 : Option O_Log) (a_1 : List UInt8) : Option (S_keys_Signer × (Option O_Log)) := ((loopN (fun s : Int × (Option O_Log) × (Option S_keys_Signer) => keys_New.b1 a_1 s.1 s.2.1 s.2.2) ((16 - 0 : Int).toNat + 2) (0, L_0, (some ⟨a_1, (0 : Int), []⟩))).bind fun cr => match cr with | .ret r => some r | .next (y33, y34, y35) => ((y35).bind fun s36 => some (s36, y34)))
theorem keys_New_ok {p_0 : Value} {L_0 : Option O_Log} {a_1 : List UInt8} {r : S_keys_Signer × (Option O_Log)} (hF : keys_New L_0 a_1 = some r) : CallOk Tryz.prog KG 5 [(eqVP p_0), (aggVP [bytesCk 32 a_1])] [(Log_e p_0 L_0)] (fun _ => [Log_e p_0 r.2]) (aggVP [bytesCk 32 r.1.f_Seed, one (intVP .i64 r.1.f_Next), one (slVP (dC 32) r.1.f_Leaves)]) := by
  refine CallOk.intro 23 Tryz.func5 rfl Tryz.ntmps5 (Nat.le_of_ble_eq_true rfl) ?_
  intro c a w hG hn h
  unfold keys_New at hF
  change SatL c [.slot 0 (eqVP p_0), .slot 1 (aggVP [bytesCk 32 a_1]), .res (Log_e p_0 L_0)] a w at h
  refine regS mixed hn hG h [0, 503, 501, 2, 502, 500] (ob [1] (op_box q0 (cells_agg _)) <| ob [] (op_alloc Tryz.zeroValue29 zo29) .nil) fun b1 a w h => ?_
  refine regS mixed hn hG h [0, 1, 2, 502, 3, 4, 5, 500] (ov [1, 4] (op_load_w 1 Tryz.isAgg23 Tryz.sizeOf23 q0) <| ov [500] (op_build [(0, .tmp 7)] rfl bu29 zo29 ⟨[], [bytesCk 32 (List.replicate 32 0)], [one (intVP .i64 (0 : Int)), one (eqVP (.slice none 0 0))], [bytesCk 32 a_1], _, rfl, rfl, rfl, q0, (cells_agg _), rfl⟩) <| ob [] (op_alloc Tryz.zeroValue29 zo29) <| og [501, 502] [500] [.res 2 100000 (fun v1_ _ => (lb (v1_) 29 [bytesCk 32 a_1, one (intVP .i64 (0 : Int)), one (eqVP (.slice none 0 0))]))] (GOk.plain (op_store_w Tryz.sizeOf29 q0 q1 (cells_agg _)) rfl) .nil) fun b3 a w h => ?_
  refine wp_seq ?_
  refine regS mixed hn hG h [0, 1, 2, 3, 500, 4, 5, 6, 7] (ov [] (op_move qi) .nil) fun _ a w h => ?_
  refine wp_block ?_
  replace h := h.nilacc 23 32 (dC 32)
  replace h := h.unsep 8 9 rfl rfl (by decide)
  replace h := h.conv 8 rfl (R' := Sgn_e (b3 2) (some ⟨a_1, (0 : Int), []⟩)) (Sgn_packo (v2 := (.slice none 0 0)) (o := (some ⟨a_1, (0 : Int), []⟩)))
  replace h := h.slotc 3 rfl (fun _ _ h => lp_eqv h)
  replace h := h.sub [0, 1, 2, 3, 4, 5, 6, 7, 8] (by rfl)
  change SatL c [.slot 0 (eqVP p_0), .slot 3 (lpVP (b1 0) 0), .slot 4 (lpVP (b1 1) 0), .slot 5 (eqVP (b3 2)), .slot 9 (intVP .i64 0), .res (Log_e p_0 L_0), .res (lb (b1 0) 23 [bytesCk 32 a_1]), .res (lb (b1 1) 29 [bytesCk 32 (List.replicate 32 0), one (intVP .i64 (0 : Int)), one (eqVP (.slice none 0 0))]), .res (Sgn_e (b3 2) (some ⟨a_1, (0 : Int), []⟩))] a w at h
  obtain ⟨cr29, hl30, hF⟩ := bind_some hF
  refine wp_mono (wp_loopN (R := S_keys_Signer × (Option O_Log)) (S := Int × (Option O_Log) × (Option S_keys_Signer)) (fun s a w => SatL c [.slot 0 (eqVP p_0), .slot 3 (lpVP (b1 0) 0), .slot 4 (lpVP (b1 1) 0), .slot 5 (eqVP (b3 2)), .slot 9 (intVP .i64 s.1), .res (Log_e p_0 s.2.1), .res (lb (b1 0) 23 [bytesCk 32 a_1]), .res (lb (b1 1) 29 [bytesCk 32 (List.replicate 32 0), one (intVP .i64 (0 : Int)), one (eqVP (.slice none 0 0))]), .res (Sgn_e (b3 2) s.2.2)] a w) (fun res e a w => match res with | .next s => e = .exit 0 ∧ SatL c [.slot 4 (lpVP (b1 1) 0), .slot 5 (eqVP (b3 2)), .res (Log_e p_0 s.2.1), .res (lb (b1 1) 29 [bytesCk 32 (List.replicate 32 0), one (intVP .i64 (0 : Int)), one (eqVP (.slice none 0 0))]), .res (Sgn_e (b3 2) s.2.2)] a w | .ret r => e = .ret ∧ RetOk Tryz.prog Tryz.f5 c (aggVP [bytesCk 32 r.1.f_Seed, one (intVP .i64 r.1.f_Next), one (slVP (dC 32) r.1.f_Leaves)]) (fun _ => [Log_e p_0 r.2]) a w) ?_ _ (0, L_0, (some ⟨a_1, (0 : Int), []⟩)) _ _ _ (h.sub [0, 1, 2, 3, 4, 5, 6, 7, 8] (by rfl)) hl30) ?_
  · clear hl30 hF h
    intro s a w o h hF
    obtain ⟨x9, x10, x11⟩ := s
    change keys_New.b1 a_1 x9 x10 x11 = some o at hF
    unfold keys_New.b1 at hF
    change SatL c [.slot 0 (eqVP p_0), .slot 3 (lpVP (b1 0) 0), .slot 4 (lpVP (b1 1) 0), .slot 5 (eqVP (b3 2)), .slot 9 (intVP .i64 x9), .res (Log_e p_0 x10), .res (lb (b1 0) 23 [bytesCk 32 a_1]), .res (lb (b1 1) 29 [bytesCk 32 (List.replicate 32 0), one (intVP .i64 (0 : Int)), one (eqVP (.slice none 0 0))]), .res (Sgn_e (b3 2) x11)] a w at h
    refine regS mixed hn hG h [0, 1, 2, 3, 4, 500, 5, 6, 7, 8] (ov [4] (op_bin bin_lss q0 qi) .nil) fun _ a w h => ?_
    refine wp_seq ?_
    refine cnd h hF 5 [0, 1, 2, 3, 4, 6, 7, 8, 9] [0, 1, 2, 3, 4, 6, 7, 8, 9] (fun hb22 hF h => ?_) (fun hb22 hF h => ?_)
    · refine wp_skip ?_
      show Code.wp Tryz.prog _ _ a w
      refine wp_seq ?_
      refine wp_block ?_
      refine regS mixed hn hG h [0, 1, 2, 3, 500, 4, 5, 6, 7, 8] (ov [4] (op_move q0) <| ov [500] (op_assign q0) .nil) fun _ a w h => ?_
      obtain ⟨s23, hs24, hF⟩ := bind_some hF
      rw [hs24] at h
      obtain ⟨h25, h⟩ := h.ex 9 rfl
      have hp := h.isp 9 rfl (fun Φ f w q => Sgn_lp Φ f w q)
      replace h := h.slotc 3 rfl (V' := lpVP (b3 2) 0) (fun _ _ h => eq_lp h hp)
      replace h := h.sep (R := lb (b3 2) 29 [bytesCk 32 s23.f_Seed, one (intVP .i64 s23.f_Next), one (eqVP h25)]) (S := (acc h25 23 32 (dC 32) s23.f_Leaves)) 9 rfl
      replace h := h.sub [0, 1, 2, 3, 4, 5, 6, 7, 8, 9, 10] (by rfl)
      change SatL c [.slot 0 (eqVP p_0), .slot 3 (lpVP (b1 0) 0), .slot 4 (lpVP (b1 1) 0), .slot 5 (lpVP (b3 2) 0), .slot 6 (intVP .i64 x9), .slot 9 (intVP .i64 x9), .res (Log_e p_0 x10), .res (lb (b1 0) 23 [bytesCk 32 a_1]), .res (lb (b1 1) 29 [bytesCk 32 (List.replicate 32 0), one (intVP .i64 (0 : Int)), one (eqVP (.slice none 0 0))]), .res (lb (b3 2) 29 [bytesCk 32 s23.f_Seed, one (intVP .i64 s23.f_Next), one (eqVP h25)]), .res (acc h25 23 32 (dC 32) s23.f_Leaves)] a w at h
      replace h := h.nilacc 23 32 (dC 32)
      replace h := h.sub [0, 1, 2, 3, 4, 5, 6, 7, 8, 9, 10, 11] (by rfl)
      change SatL c [.slot 0 (eqVP p_0), .slot 3 (lpVP (b1 0) 0), .slot 4 (lpVP (b1 1) 0), .slot 5 (lpVP (b3 2) 0), .slot 6 (intVP .i64 x9), .slot 9 (intVP .i64 x9), .res (Log_e p_0 x10), .res (lb (b1 0) 23 [bytesCk 32 a_1]), .res (lb (b1 1) 29 [bytesCk 32 (List.replicate 32 0), one (intVP .i64 (0 : Int)), one (eqVP (.slice none 0 0))]), .res (lb (b3 2) 29 [bytesCk 32 s23.f_Seed, one (intVP .i64 s23.f_Next), one (eqVP h25)]), .res (acc h25 23 32 (dC 32) s23.f_Leaves), .res (acc (.slice none 0 0) 23 32 (dC 32) ([] : List (List UInt8)))] a w at h
      obtain ⟨r26, hr26, hF⟩ := bind_some hF
      obtain ⟨hv27, hF⟩ := ite_some hF
      refine reg mixed hn hG h [0, 1, 2, 3, 5, 7, 8, 500, 505, 502] (ov [3] (op_fieldAddr_lbm (p := (b3 2)) (n := 1) 0 33 Tryz.underlying29 rfl Tryz.sizeOf27 (by decide) q0 rfl) <| ov [500, 9] (op_load_lb1 [bytesCk 32 s23.f_Seed, one (intVP .i64 s23.f_Next)] [] 1 Tryz.isAgg27 q0 rfl rfl) <| ov [0] (op_move q0) <| ov [1, 7] (op_load_w 1 Tryz.isAgg23 Tryz.sizeOf23 q0) <| ov [4] (op_move q0) <| oc [502, 501, 500] [6] Tryz.call17 (lamport_Word_ok hr26) ⟨q0, q1, q2, trivial⟩ <| ov [501] (op_lit (xs := [.tmp 17]) (ys := [r26.1]) _ rfl Tryz.underlying27 Tryz.sizeOf23 Tryz.zeroValue23 rfl rfl (by decide) (by decide) ⟨⟨_, q0, (cells_agg _)⟩, trivial⟩ (lens_dC 32)) <| og [506, 500] [10] [.slot 19 7 100000 (fun v1_ _ => (eqVP v1_)), .res 7 100000 (fun v1_ _ => (acc (v1_) 23 32 (dC 32) (s23.f_Leaves ++ [r26.1])))] (GOk.plain (op_append (i := Tryz.t23) Tryz.underlying27 Tryz.type23 rfl (lens_dC 32) (by decide) rfl q0 q1 hv27) rfl) <| ov [3] (op_fieldAddr_lbm (p := (b3 2)) (n := 1) 0 33 Tryz.underlying29 rfl Tryz.sizeOf27 (by decide) q0 rfl) <| og [500, 502, 501] [9] [.res 7 100000 (fun v1_ _ => (lb (b3 2) 29 [bytesCk 32 s23.f_Seed, one (intVP .i64 s23.f_Next), one (eqVP (v1_))]))] (fun {β} => (GOk.plain (op_store_lb [bytesCk 32 s23.f_Seed, one (intVP .i64 s23.f_Next)] [one (eqVP h25)] [] [one (eqVP ((β 7)))] Tryz.sizeOf27 q0 (opone 1 2 rfl rfl acc_one) (cells_h _) rfl rfl rfl) rfl)) .nil) fun b28 a w h => ?_
      replace h := h.unsep 7 9 rfl rfl (by decide)
      replace h := h.conv 7 rfl (R' := Sgn_e (b3 2) (some ⟨s23.f_Seed, s23.f_Next, s23.f_Leaves ++ [r26.1]⟩)) (Sgn_packo (v2 := (b28 7)) (o := (some ⟨s23.f_Seed, s23.f_Next, s23.f_Leaves ++ [r26.1]⟩)))
      replace h := h.slotc 3 rfl (fun _ _ h => lp_eqv h)
      replace h := h.sub [0, 1, 2, 3, 4, 5, 6, 8, 7] (by rfl)
      change SatL c [.slot 0 (eqVP p_0), .slot 3 (lpVP (b1 0) 0), .slot 4 (lpVP (b1 1) 0), .slot 5 (eqVP (b3 2)), .slot 9 (intVP .i64 x9), .res (lb (b1 0) 23 [bytesCk 32 a_1]), .res (lb (b1 1) 29 [bytesCk 32 (List.replicate 32 0), one (intVP .i64 (0 : Int)), one (eqVP (.slice none 0 0))]), .res (Log_e p_0 r26.2), .res (Sgn_e (b3 2) (some ⟨s23.f_Seed, s23.f_Next, s23.f_Leaves ++ [r26.1]⟩))] a w at h
      show Code.wp Tryz.prog _ _ a w
      refine reg mixed hn hG h [0, 1, 2, 3, 500, 5, 6, 7, 8] (ov [4] (op_bin bin_add q0 qi) <| od [500] 4 (op_move q0) .nil) fun _ a w h => ?_
      obtain rfl := Option.some.inj hF
      exact ⟨rfl, h.sub [0, 1, 2, 3, 4, 7, 5, 6, 8] (by rfl)⟩
    · refine wp_exit ?_
      obtain rfl := Option.some.inj hF
      exact ⟨exit_ne _, rfl, h.sub [2, 3, 5, 7, 8] (by rfl)⟩
  · clear hl30
    intro e a w hq
    cases cr29 with
    | ret r31 =>
      obtain ⟨rfl, hq⟩ := hq
      obtain rfl := Option.some.inj hF
      exact ⟨.inl rfl, hq⟩
    | next s32 =>
      obtain ⟨y33, y34, y35⟩ := s32
      obtain ⟨rfl, h⟩ := hq
      change SatL c [.slot 4 (lpVP (b1 1) 0), .slot 5 (eqVP (b3 2)), .res (Log_e p_0 y34), .res (lb (b1 1) 29 [bytesCk 32 (List.replicate 32 0), one (intVP .i64 (0 : Int)), one (eqVP (.slice none 0 0))]), .res (Sgn_e (b3 2) y35)] a w at h
      refine inBlock_at ?_
      show Code.wp Tryz.prog _ _ a w
      obtain ⟨s36, hs37, hF⟩ := bind_some hF
      rw [hs37] at h
      obtain ⟨h38, h⟩ := h.ex 4 rfl
      have hp := h.isp 4 rfl (fun Φ f w q => Sgn_lp Φ f w q)
      replace h := h.slotc 1 rfl (V' := lpVP (b3 2) 0) (fun _ _ h => eq_lp h hp)
      replace h := h.sep (R := lb (b3 2) 29 [bytesCk 32 s36.f_Seed, one (intVP .i64 s36.f_Next), one (eqVP h38)]) (S := (acc h38 23 32 (dC 32) s36.f_Leaves)) 4 rfl
      replace h := h.sub [0, 1, 2, 3, 4, 5] (by rfl)
      change SatL c [.slot 4 (lpVP (b1 1) 0), .slot 5 (lpVP (b3 2) 0), .res (Log_e p_0 y34), .res (lb (b1 1) 29 [bytesCk 32 (List.replicate 32 0), one (intVP .i64 (0 : Int)), one (eqVP (.slice none 0 0))]), .res (lb (b3 2) 29 [bytesCk 32 s36.f_Seed, one (intVP .i64 s36.f_Next), one (eqVP h38)]), .res (acc h38 23 32 (dC 32) s36.f_Leaves)] a w at h
      replace h := h.unsep 4 5 rfl rfl (by decide)
      replace h := h.conv 4 rfl (settle (pre := [bytesCk 32 s36.f_Seed, one (intVP .i64 s36.f_Next)]) (post := []))
      replace h := h.sep 4 rfl
      replace h := h.sub [0, 1, 2, 3, 4] (by rfl)
      change SatL c [.slot 4 (lpVP (b1 1) 0), .slot 5 (lpVP (b3 2) 0), .res (Log_e p_0 y34), .res (lb (b1 1) 29 [bytesCk 32 (List.replicate 32 0), one (intVP .i64 (0 : Int)), one (eqVP (.slice none 0 0))]), .res (lb (b3 2) 29 [bytesCk 32 s36.f_Seed, one (intVP .i64 s36.f_Next), one (slVP (dC 32) s36.f_Leaves)])] a w at h
      refine regS mixed hn hG h [0, 2, 500] (ov [1, 4] (op_load_w 1 Tryz.isAgg29 Tryz.sizeOf29 q0) <| ou [0, 500] 3 (op_store_w Tryz.sizeOf29 q0 q1 (cells_agg _)) .nil) fun _ a w h => ?_
      refine wp_ret ?_
      obtain rfl := Option.some.inj hF
      exact ⟨.inl rfl, ret1 h Tryz.results5 (r_cell 0 2 rfl rfl Tryz.isAgg29 Tryz.sizeOf29 rfl) [1] [(Log_e p_0 y34)] rfl rfl rfl⟩

def replica_New (a_0 : Int) (a_1 : Int) (a_2 : List UInt8) (a_3 : List (List UInt8)) (a_4 : Int) (a_5 : List UInt8) : Option S_api_Replica := ((slices_Clone_api_Digest a_3).bind fun r4 => some (S_api_Replica.mk a_0 a_1 a_2 r4 a_4 a_5 [] [] false false))
theorem replica_New_ok {a_0 : Int} {a_1 : Int} {a_2 : List UInt8} {a_3 : List (List UInt8)} {a_4 : Int} {a_5 : List UInt8} {r : S_api_Replica} (hF : replica_New a_0 a_1 a_2 a_3 a_4 a_5 = some r) : CallOk Tryz.prog KG 6 [(intVP .u32 a_0), (intVP .u32 a_1), (aggVP [bytesCk 32 a_2]), (slVP (dC 32) a_3), (intVP .u64 a_4), (aggVP [bytesCk 32 a_5])] [] (fun _ => []) (aggVP [one (intVP .u32 r.f_Chain), one (intVP .u32 r.f_Here), bytesCk 32 r.f_Updater, one (slVP (dC 32) r.f_Watchers), one (intVP .u64 r.f_Window), bytesCk 32 r.f_Committed, one (slVP S_api_Timed.ck r.f_Roots), one (slVP S_api_State.ck r.f_States), one (boolVP r.f_Failed), one (boolVP r.f_Cut)]) := by
  refine CallOk.intro 21 Tryz.func6 rfl Tryz.ntmps6 (Nat.le_of_ble_eq_true rfl) ?_
  intro c a w hG hn h
  unfold replica_New at hF
  change SatL c [.slot 0 (intVP .u32 a_0), .slot 1 (intVP .u32 a_1), .slot 2 (aggVP [bytesCk 32 a_2]), .slot 3 (slVP (dC 32) a_3), .slot 4 (intVP .u64 a_4), .slot 5 (aggVP [bytesCk 32 a_5])] a w at h
  refine regS mixed hn hG h [0, 1, 3, 4, 505, 503, 501, 504, 502, 500] (ob [2] (op_box q0 (cells_agg _)) <| ob [5] (op_box q0 (cells_agg _)) <| ob [] (op_alloc Tryz.zeroValue36 z36) .nil) fun b1 a w h => ?_
  obtain ⟨r4, hr4, hF⟩ := bind_some hF
  refine regS mixed hn hG h [6, 500] (ov [0] (op_move q0) <| ov [1] (op_move q0) <| ov [4, 7] (op_load_w 1 Tryz.isAgg23 Tryz.sizeOf23 q0) <| ov [2] (op_move q0) <| oc [500] [] Tryz.call18 (slices_Clone_api_Digest_ok hr4) ⟨q0, trivial⟩ <| ov [3] (op_move q0) <| ov [5, 8] (op_load_w 1 Tryz.isAgg23 Tryz.sizeOf23 q0) <| ov [506, 505, 504, 502, 501, 500] (op_build [(0, .tmp 13), (1, .tmp 14), (2, .tmp 15), (3, .tmp 17), (4, .tmp 18), (5, .tmp 19)] rfl bu36 z36 ⟨[], [one (intVP .u32 (0 : Int))], [one (intVP .u32 (0 : Int)), bytesCk 32 (List.replicate 32 0), one (slVP (dC 32) []), one (intVP .u64 (0 : Int)), bytesCk 32 (List.replicate 32 0), one (slVP S_api_Timed.ck []), one (slVP S_api_State.ck []), one (boolVP false), one (boolVP false)], [one (intVP .u32 a_0)], _, rfl, rfl, rfl, q0, (cells_one (one_int _ _)), ⟨[one (intVP .u32 a_0)], [one (intVP .u32 (0 : Int))], [bytesCk 32 (List.replicate 32 0), one (slVP (dC 32) []), one (intVP .u64 (0 : Int)), bytesCk 32 (List.replicate 32 0), one (slVP S_api_Timed.ck []), one (slVP S_api_State.ck []), one (boolVP false), one (boolVP false)], [one (intVP .u32 a_1)], _, rfl, rfl, rfl, q1, (cells_one (one_int _ _)), ⟨[one (intVP .u32 a_0), one (intVP .u32 a_1)], [bytesCk 32 (List.replicate 32 0)], [one (slVP (dC 32) []), one (intVP .u64 (0 : Int)), bytesCk 32 (List.replicate 32 0), one (slVP S_api_Timed.ck []), one (slVP S_api_State.ck []), one (boolVP false), one (boolVP false)], [bytesCk 32 a_2], _, rfl, rfl, rfl, q2, (cells_agg _), ⟨[one (intVP .u32 a_0), one (intVP .u32 a_1), bytesCk 32 a_2], [one (slVP (dC 32) [])], [one (intVP .u64 (0 : Int)), bytesCk 32 (List.replicate 32 0), one (slVP S_api_Timed.ck []), one (slVP S_api_State.ck []), one (boolVP false), one (boolVP false)], [one (slVP (dC 32) r4)], _, rfl, rfl, rfl, q3, (cells_one (one_sl _ _)), ⟨[one (intVP .u32 a_0), one (intVP .u32 a_1), bytesCk 32 a_2, one (slVP (dC 32) r4)], [one (intVP .u64 (0 : Int))], [bytesCk 32 (List.replicate 32 0), one (slVP S_api_Timed.ck []), one (slVP S_api_State.ck []), one (boolVP false), one (boolVP false)], [one (intVP .u64 a_4)], _, rfl, rfl, rfl, (opt 4 rfl), (cells_one (one_int _ _)), ⟨[one (intVP .u32 a_0), one (intVP .u32 a_1), bytesCk 32 a_2, one (slVP (dC 32) r4), one (intVP .u64 a_4)], [bytesCk 32 (List.replicate 32 0)], [one (slVP S_api_Timed.ck []), one (slVP S_api_State.ck []), one (boolVP false), one (boolVP false)], [bytesCk 32 a_5], _, rfl, rfl, rfl, (opt 5 rfl), (cells_agg _), rfl⟩⟩⟩⟩⟩⟩) <| ou [6, 500] 9 (op_store_w Tryz.sizeOf36 q0 q1 (cells_agg _)) .nil) fun _ a w h => ?_
  refine wp_ret ?_
  obtain rfl := Option.some.inj hF
  exact ⟨.inl rfl, ret1 h Tryz.results6 (r_cell 0 1 rfl rfl Tryz.isAgg36 Tryz.sizeOf36 rfl) [] [] rfl rfl rfl⟩

def digest_Log_Two (L_0 : Option O_Log) (a_1 : Int) (a_2 : List UInt8) (a_3 : List UInt8) : Option ((List UInt8) × (Option O_Log)) := ((wire_Digest a_2).bind fun r4 => ((wire_Digest a_3).bind fun r5 => ((digest_Log_Of L_0 a_1 [r4, r5]).bind fun r6 => some (r6.1, r6.2))))
theorem digest_Log_Two_ok {p_0 : Value} {L_0 : Option O_Log} {a_1 : Int} {a_2 : List UInt8} {a_3 : List UInt8} {r : (List UInt8) × (Option O_Log)} (hF : digest_Log_Two L_0 a_1 a_2 a_3 = some r) : CallOk Tryz.prog KG 37 [(eqVP p_0), (intVP .u8 a_1), (aggVP [bytesCk 32 a_2]), (aggVP [bytesCk 32 a_3])] [(Log_e p_0 L_0)] (fun _ => [Log_e p_0 r.2]) (aggVP [bytesCk 32 r.1]) := by
  refine CallOk.intro 17 Tryz.func37 rfl Tryz.ntmps37 (Nat.le_of_ble_eq_true rfl) ?_
  intro c a w hG hn h
  unfold digest_Log_Two at hF
  change SatL c [.slot 0 (eqVP p_0), .slot 1 (intVP .u8 a_1), .slot 2 (aggVP [bytesCk 32 a_2]), .slot 3 (aggVP [bytesCk 32 a_3]), .res (Log_e p_0 L_0)] a w at h
  refine regS mixed hn hG h [0, 1, 505, 503, 501, 4, 504, 502, 500] (ob [2] (op_box q0 (cells_agg _)) <| ob [3] (op_box q0 (cells_agg _)) <| ob [] (op_alloc Tryz.zeroValue23 z23) .nil) fun b1 a w h => ?_
  obtain ⟨r4, hr4, hF⟩ := bind_some hF
  obtain ⟨r5, hr5, hF⟩ := bind_some hF
  obtain ⟨r6, hr6, hF⟩ := bind_some hF
  refine regS mixed hn hG h [4, 500, 501] (ov [0] (op_move q0) <| ov [1] (op_move q0) <| ov [2, 6] (op_load_w 1 Tryz.isAgg23 Tryz.sizeOf23 q0) <| oc [500] [] Tryz.call47 (wire_Digest_ok hr4) ⟨q0, trivial⟩ <| ov [3, 7] (op_load_w 1 Tryz.isAgg23 Tryz.sizeOf23 q0) <| oc [500] [] Tryz.call47 (wire_Digest_ok hr5) ⟨q0, trivial⟩ <| ov [502, 500] (op_lit (xs := [.tmp 12, .tmp 14]) (ys := [r4, r5]) _ rfl Tryz.underlying75 Tryz.sizeOf9 Tryz.zeroValue9 rfl rfl (by decide) (by decide) ⟨⟨_, q0, (cells_one (one_str _))⟩, ⟨_, q1, (cells_one (one_str _))⟩, trivial⟩ lens_strC) <| oc [506, 505, 500] [5] Tryz.call45 (digest_Log_Of_ok hr6) ⟨q0, q1, q2, trivial⟩ <| ou [4, 501] 8 (op_store_w Tryz.sizeOf23 q0 q1 (cells_agg _)) .nil) fun _ a w h => ?_
  refine wp_ret ?_
  obtain rfl := Option.some.inj hF
  exact ⟨.inl rfl, ret1 h Tryz.results37 (r_cell 0 1 rfl rfl Tryz.isAgg23 Tryz.sizeOf23 rfl) [2] [(Log_e p_0 r6.2)] rfl rfl rfl⟩

def keys_up.b1 (a_1 : List (List UInt8)) (x15 : Int) (x16 : Option O_Log) (x17 : List (List UInt8)) : Option (Flow ((List (List UInt8)) × (Option O_Log)) (Int × (Option O_Log) × (List (List UInt8)))) := (if (decide ((IntKind.wrap .i64 (x15 + 1)) < (a_1.length : Int))) = true then (if (0 : Int) ≤ x15 ∧ x15 < a_1.length then (if (0 : Int) ≤ IntKind.wrap .i64 (x15 + 1) ∧ IntKind.wrap .i64 (x15 + 1) < a_1.length then ((digest_Log_Two x16 4 (a_1.getD x15.toNat default) (a_1.getD (IntKind.wrap .i64 (x15 + 1)).toNat default)).bind fun r32 => (if x17.length + [r32.1].length ≤ mxl ∧ (x17.length + [r32.1].length) * 32 ≤ 140737488355328 then some (.cont (IntKind.wrap .i64 (x15 + 2), r32.2, x17 ++ [r32.1])) else none)) else none) else none) else some (.brk (x15, x16, x17)))
def keys_up (L_0 : Option O_Log) (a_1 : List (List UInt8)) : Option ((List (List UInt8)) × (Option O_Log)) := ((loopN (fun s : Int × (Option O_Log) × (List (List UInt8)) => keys_up.b1 a_1 s.1 s.2.1 s.2.2) 100000 (0, L_0, [])).bind fun cr => match cr with | .ret r => some r | .next (y39, y40, y41) => some (y41, y40))
theorem keys_up_ok {p_0 : Value} {L_0 : Option O_Log} {a_1 : List (List UInt8)} {r : (List (List UInt8)) × (Option O_Log)} (hF : keys_up L_0 a_1 = some r) : CallOk Tryz.prog KG 19 [(eqVP p_0), (slVP (dC 32) a_1)] [(Log_e p_0 L_0)] (fun _ => [Log_e p_0 r.2]) (slVP (dC 32) r.1) := by
  refine CallOk.intro 29 Tryz.func19 rfl Tryz.ntmps19 (Nat.le_of_ble_eq_true rfl) ?_
  intro c a w hG hn h
  unfold keys_up at hF
  change SatL c [.slot 0 (eqVP p_0), .slot 1 (slVP (dC 32) a_1), .res (Log_e p_0 L_0)] a w at h
  refine regS mixed hn hG h [0, 1, 2] (ov [] (op_assign (opc (ec _))) .nil) fun _ a w h => ?_
  refine regS mixed hn hG h [0, 1, 500, 2] (ov [] (op_assign (opc (ec _))) .nil) fun _ a w h => ?_
  refine wp_seq ?_
  refine regS mixed hn hG h [0, 1, 2, 500, 3] (ov [] (op_assign qi) .nil) fun _ a w h => ?_
  refine wp_block ?_
  obtain ⟨q8, h⟩ : ∃ q8 : Value, SatL c [.slot 0 (eqVP p_0), .slot 1 (slVP (dC 32) a_1), .slot 5 (eqVP q8), .slot 6 (intVP .i64 0), .res (Log_e p_0 L_0), .res (acc q8 23 32 (dC 32) [])] a w := ⟨.slice none 0 0, (h.nilacc 23 32 (dC 32)).sub [0, 1, 2, 3, 4, 5] (by rfl)⟩
  obtain ⟨cr35, hl36, hF⟩ := bind_some hF
  refine wp_mono (wp_loopN (R := (List (List UInt8)) × (Option O_Log)) (S := Int × (Option O_Log) × (List (List UInt8))) (fun s a w => ∃ q18 : Value, SatL c [.slot 0 (eqVP p_0), .slot 1 (slVP (dC 32) a_1), .slot 5 (eqVP q18), .slot 6 (intVP .i64 s.1), .res (Log_e p_0 s.2.1), .res (acc q18 23 32 (dC 32) s.2.2)] a w) (fun res e a w => match res with | .next s => e = .exit 0 ∧ ∃ q18 : Value, SatL c [.slot 5 (eqVP q18), .res (Log_e p_0 s.2.1), .res (acc q18 23 32 (dC 32) s.2.2)] a w | .ret r => e = .ret ∧ RetOk Tryz.prog Tryz.f19 c (slVP (dC 32) r.1) (fun _ => [Log_e p_0 r.2]) a w) ?_ _ (0, L_0, []) _ _ _ ⟨q8, (h.sub [0, 1, 2, 3, 4, 5] (by rfl))⟩ hl36) ?_
  · clear hl36 hF h
    intro s a w o h hF
    obtain ⟨x15, x16, x17⟩ := s
    obtain ⟨q18, h⟩ := h
    change keys_up.b1 a_1 x15 x16 x17 = some o at hF
    unfold keys_up.b1 at hF
    change SatL c [.slot 0 (eqVP p_0), .slot 1 (slVP (dC 32) a_1), .slot 5 (eqVP q18), .slot 6 (intVP .i64 x15), .res (Log_e p_0 x16), .res (acc q18 23 32 (dC 32) x17)] a w at h
    refine wp_seq ?_
    refine regS mixed hn hG h [0, 1, 2, 3, 500, 4, 5] (ov [3] (op_move q0) <| ov [500] (op_bin bin_add q0 qi) <| ov [1] (op_move q0) <| ov [500] (op_len_sl Tryz.underlying27 q0) <| ov [502, 500] (op_bin bin_lss q0 q1) .nil) fun _ a w h => ?_
    refine cnd h hF 4 [0, 1, 2, 3, 5, 6] [0, 1, 2, 3, 5, 6] (fun hb29 hF h => ?_) (fun hb29 hF h => ?_)
    · refine wp_skip ?_
      show Code.wp Tryz.prog _ _ a w
      refine wp_seq ?_
      refine wp_block ?_
      obtain ⟨hv30, hF⟩ := ite_some hF
      obtain ⟨hv31, hF⟩ := ite_some hF
      obtain ⟨r32, hr32, hF⟩ := bind_some hF
      obtain ⟨hv33, hF⟩ := ite_some hF
      refine reg mixed hn hG h [0, 1, 500, 3, 504, 501] (ov [2] (op_move q0) <| ov [0] (op_move q0) <| ov [1] (op_move q0) <| ov [3] (op_move q0) <| ov [501, 500] (op_indexAddr_sl Tryz.underlying27 Tryz.sizeOf23 (lens_dC 32) q0 q1 hv30) <| ov [500] (op_load_pp [bytesCk 32 (a_1.getD x15.toNat default)] [] Tryz.isAgg23 Tryz.sizeOf23 q0 rfl) <| ov [1] (op_move q0) <| ov [3] (op_move q0) <| ov [500] (op_bin bin_add q0 qi) <| ov [502, 500] (op_indexAddr_sl Tryz.underlying27 Tryz.sizeOf23 (lens_dC 32) q0 q1 hv31) <| ov [500] (op_load_pp [bytesCk 32 (a_1.getD (IntKind.wrap .i64 (x15 + 1)).toNat default)] [] Tryz.isAgg23 Tryz.sizeOf23 q0 rfl) <| oc [509, 505, 500] [4] Tryz.call37 (digest_Log_Two_ok hr32) ⟨q0, qi, q1, q2, trivial⟩ <| ov [501] (op_lit (xs := [.tmp 25]) (ys := [r32.1]) _ rfl Tryz.underlying27 Tryz.sizeOf23 Tryz.zeroValue23 rfl rfl (by decide) (by decide) ⟨⟨_, q0, (cells_agg _)⟩, trivial⟩ (lens_dC 32)) <| og [513, 500] [5] [.slot 27 13 100000 (fun v1_ _ => (eqVP v1_)), .res 13 100000 (fun v1_ _ => (acc (v1_) 23 32 (dC 32) (x17 ++ [r32.1])))] (GOk.plain (op_append (i := Tryz.t23) Tryz.underlying27 Tryz.type23 rfl (lens_dC 32) (by decide) rfl q0 q1 hv33) rfl) <| og [501] [2] [.slot 5 13 100000 (fun v1_ _ => (eqVP v1_))] (fun {β} => (GOk.drop _ (GOk.plain (op_assign (V := (eqVP (β 13))) q0) rfl))) .nil) fun b34 a w h => ?_
      show Code.wp Tryz.prog _ _ a w
      refine reg mixed hn hG h [0, 1, 2, 500, 4, 5] (ov [3] (op_move q0) <| ov [500] (op_bin bin_add q0 qi) <| od [500] 3 (op_assign q0) .nil) fun _ a w h => ?_
      obtain rfl := Option.some.inj hF
      exact ⟨rfl, (b34 13), h.sub [0, 1, 2, 3, 4, 5] (by rfl)⟩
    · refine wp_exit ?_
      obtain rfl := Option.some.inj hF
      exact ⟨exit_ne _, rfl, q18, h.sub [2, 4, 5] (by rfl)⟩
  · clear hl36
    intro e a w hq
    cases cr35 with
    | ret r37 =>
      obtain ⟨rfl, hq⟩ := hq
      obtain rfl := Option.some.inj hF
      exact ⟨.inl rfl, hq⟩
    | next s38 =>
      obtain ⟨y39, y40, y41⟩ := s38
      obtain ⟨rfl, q18, h⟩ := hq
      change SatL c [.slot 5 (eqVP q18), .res (Log_e p_0 y40), .res (acc q18 23 32 (dC 32) y41)] a w at h
      refine inBlock_at ?_
      show Code.wp Tryz.prog _ _ a w
      refine regS mixed hn hG h [500, 1, 2] (ov [0] (op_move q0) <| ov [500] (op_assign q0) .nil) fun _ a w h => ?_
      refine wp_ret ?_
      obtain rfl := Option.some.inj hF
      exact ⟨.inl rfl, ret1 h Tryz.results19 (r_acc 0 2 rfl rfl) [1] [(Log_e p_0 y40)] rfl rfl rfl⟩

def keys_Signer_Root.b1 (x6 : List (List UInt8)) (x7 : Option O_Log) : Option (Flow ((List UInt8) × (Option O_Log)) ((List (List UInt8)) × (Option O_Log))) := (if (decide ((1 : Int) < (x6.length : Int))) = true then ((keys_up x7 x6).bind fun r13 => some (.cont (r13.1, r13.2))) else some (.brk (x6, x7)))
def keys_Signer_Root (a_0 : S_keys_Signer) (L_1 : Option O_Log) : Option ((List UInt8) × (Option O_Log)) := (if (!decide ((a_0.f_Leaves.length : Int) = (16 : Int))) = true then some ((List.replicate 32 0), L_1) else ((loopN (fun s : (List (List UInt8)) × (Option O_Log) => keys_Signer_Root.b1 s.1 s.2) (((a_0.f_Leaves.length : Int) - 1 : Int).toNat + 2) (a_0.f_Leaves, L_1)).bind fun cr => match cr with | .ret r => some r | .next (y18, y19) => (if (0 : Int) ≤ 0 ∧ (0 : Int) < y18.length then some (y18.getD (0 : Int).toNat default, y19) else none)))
theorem keys_Signer_Root_ok {p_1 : Value} {a_0 : S_keys_Signer} {L_1 : Option O_Log} {r : (List UInt8) × (Option O_Log)} (hF : keys_Signer_Root a_0 L_1 = some r) : CallOk Tryz.prog KG 7 [(aggVP [bytesCk 32 a_0.f_Seed, one (intVP .i64 a_0.f_Next), one (slVP (dC 32) a_0.f_Leaves)]), (eqVP p_1)] [(Log_e p_1 L_1)] (fun _ => [Log_e p_1 r.2]) (aggVP [bytesCk 32 r.1]) := by
  refine CallOk.intro 22 Tryz.func7 rfl Tryz.ntmps7 (Nat.le_of_ble_eq_true rfl) ?_
  intro c a w hG hn h
  unfold keys_Signer_Root at hF
  change SatL c [.slot 0 (aggVP [bytesCk 32 a_0.f_Seed, one (intVP .i64 a_0.f_Next), one (slVP (dC 32) a_0.f_Leaves)]), .slot 1 (eqVP p_1), .res (Log_e p_1 L_1)] a w at h
  refine regS mixed hn hG h [1, 503, 501, 2, 502, 500] (ob [0] (op_box q0 (cells_agg _)) <| ob [] (op_alloc Tryz.zeroValue23 z23) .nil) fun b1 a w h => ?_
  refine wp_seq ?_
  refine regS mixed hn hG h [0, 1, 2, 500, 3, 4, 5] (ov [1] (op_fieldAddr_lbm (p := (b1 0)) (n := 1) 0 33 Tryz.underlying29 rfl Tryz.sizeOf27 (by decide) q0 rfl) <| ov [500, 4] (op_load_lb1 [bytesCk 32 a_0.f_Seed, one (intVP .i64 a_0.f_Next)] [] 1 Tryz.isAgg27 q0 rfl rfl) <| ov [500] (op_len_sl Tryz.underlying27 q0) <| ov [500] (op_bin bin_neq q0 qi) .nil) fun _ a w h => ?_
  refine cnd h hF 3 [2, 4, 6] [0, 1, 2, 4, 5, 6] (fun hb3 hF h => ?_) (fun hb3 hF h => ?_)
  · refine regS mixed hn hG h [0, 1, 500] (ov [] (build0 Tryz.zeroValue23 Tryz.underlying23 Tryz.sizeOf5 z23) <| ou [0, 500] 2 (op_store_w Tryz.sizeOf23 q0 q1 (cells_agg _)) .nil) fun _ a w h => ?_
    refine wp_ret ?_
    obtain rfl := Option.some.inj hF
    exact ⟨.inl rfl, ret1 h Tryz.results7 (r_cell 0 2 rfl rfl Tryz.isAgg23 Tryz.sizeOf23 rfl) [1] [(Log_e p_1 L_1)] rfl rfl rfl⟩
  · refine wp_skip ?_
    show Code.wp Tryz.prog _ _ a w
    refine regS mixed hn hG h [0, 2, 500, 3, 5] (ov [1] (op_fieldAddr_lbm (p := (b1 0)) (n := 1) 0 33 Tryz.underlying29 rfl Tryz.sizeOf27 (by decide) q0 rfl) <| ov [500, 4] (op_load_lb1 [bytesCk 32 a_0.f_Seed, one (intVP .i64 a_0.f_Next)] [] 1 Tryz.isAgg27 q0 rfl rfl) <| ov [500] (op_assign q0) .nil) fun _ a w h => ?_
    refine wp_seq ?_
    refine wp_block ?_
    obtain ⟨cr14, hl15, hF⟩ := bind_some hF
    refine wp_mono (wp_loopN (R := (List UInt8) × (Option O_Log)) (S := (List (List UInt8)) × (Option O_Log)) (fun s a w => SatL c [.slot 1 (eqVP p_1), .slot 4 (lpVP (b1 1) 0), .slot 5 (slVP (dC 32) s.1), .res (Log_e p_1 s.2), .res (lb (b1 1) 23 [bytesCk 32 (List.replicate 32 0)])] a w) (fun res e a w => match res with | .next s => e = .exit 0 ∧ SatL c [.slot 4 (lpVP (b1 1) 0), .slot 5 (slVP (dC 32) s.1), .res (Log_e p_1 s.2), .res (lb (b1 1) 23 [bytesCk 32 (List.replicate 32 0)])] a w | .ret r => e = .ret ∧ RetOk Tryz.prog Tryz.f7 c (aggVP [bytesCk 32 r.1]) (fun _ => [Log_e p_1 r.2]) a w) ?_ _ (a_0.f_Leaves, L_1) _ _ _ (h.sub [0, 1, 2, 3, 4] (by rfl)) hl15) ?_
    · clear hl15 hF h
      intro s a w o h hF
      obtain ⟨x6, x7⟩ := s
      change keys_Signer_Root.b1 x6 x7 = some o at hF
      unfold keys_Signer_Root.b1 at hF
      change SatL c [.slot 1 (eqVP p_1), .slot 4 (lpVP (b1 1) 0), .slot 5 (slVP (dC 32) x6), .res (Log_e p_1 x7), .res (lb (b1 1) 23 [bytesCk 32 (List.replicate 32 0)])] a w at h
      refine wp_seq ?_
      refine regS mixed hn hG h [0, 1, 2, 500, 3, 4] (ov [2] (op_move q0) <| ov [500] (op_len_sl Tryz.underlying27 q0) <| ov [500] (op_bin bin_gtr q0 qi) .nil) fun _ a w h => ?_
      refine cnd h hF 3 [0, 1, 2, 4, 5] [0, 1, 2, 4, 5] (fun hb12 hF h => ?_) (fun hb12 hF h => ?_)
      · refine wp_skip ?_
        show Code.wp Tryz.prog _ _ a w
        refine wp_block ?_
        obtain ⟨r13, hr13, hF⟩ := bind_some hF
        refine reg mixed hn hG h [0, 1, 500, 4, 501] (ov [0] (op_move q0) <| ov [2] (op_move q0) <| oc [501, 500] [3] Tryz.call19 (keys_up_ok hr13) ⟨q0, q1, trivial⟩ <| od [501] 2 (op_assign q0) .nil) fun _ a w h => ?_
        obtain rfl := Option.some.inj hF
        exact ⟨rfl, h.sub [0, 1, 2, 4, 3] (by rfl)⟩
      · refine wp_exit ?_
        obtain rfl := Option.some.inj hF
        exact ⟨exit_ne _, rfl, h.sub [1, 2, 3, 4] (by rfl)⟩
    · clear hl15
      intro e a w hq
      cases cr14 with
      | ret r16 =>
        obtain ⟨rfl, hq⟩ := hq
        obtain rfl := Option.some.inj hF
        exact ⟨.inl rfl, hq⟩
      | next s17 =>
        obtain ⟨y18, y19⟩ := s17
        obtain ⟨rfl, h⟩ := hq
        change SatL c [.slot 4 (lpVP (b1 1) 0), .slot 5 (slVP (dC 32) y18), .res (Log_e p_1 y19), .res (lb (b1 1) 23 [bytesCk 32 (List.replicate 32 0)])] a w at h
        refine inBlock_at ?_
        show Code.wp Tryz.prog _ _ a w
        obtain ⟨hv20, hF⟩ := ite_some hF
        refine regS mixed hn hG h [0, 2, 500] (ov [1] (op_move q0) <| ov [500] (op_indexAddr_sl Tryz.underlying27 Tryz.sizeOf23 (lens_dC 32) q0 qi hv20) <| ov [500] (op_load_pp [bytesCk 32 (y18.getD (0 : Int).toNat default)] [] Tryz.isAgg23 Tryz.sizeOf23 q0 rfl) <| ou [0, 500] 3 (op_store_w Tryz.sizeOf23 q0 q1 (cells_agg _)) .nil) fun _ a w h => ?_
        refine wp_ret ?_
        obtain rfl := Option.some.inj hF
        exact ⟨.inl rfl, ret1 h Tryz.results7 (r_cell 0 2 rfl rfl Tryz.isAgg23 Tryz.sizeOf23 rfl) [1] [(Log_e p_1 y19)] rfl rfl rfl⟩

def merkle_node (L_0 : Option O_Log) (a_1 : List UInt8) (a_2 : List UInt8) : Option ((List UInt8) × (Option O_Log)) := ((digest_Log_Two L_0 6 a_1 a_2).bind fun r4 => some (r4.1, r4.2))
theorem merkle_node_ok {p_0 : Value} {L_0 : Option O_Log} {a_1 : List UInt8} {a_2 : List UInt8} {r : (List UInt8) × (Option O_Log)} (hF : merkle_node L_0 a_1 a_2 = some r) : CallOk Tryz.prog KG 38 [(eqVP p_0), (aggVP [bytesCk 32 a_1]), (aggVP [bytesCk 32 a_2])] [(Log_e p_0 L_0)] (fun _ => [Log_e p_0 r.2]) (aggVP [bytesCk 32 r.1]) := by
  refine CallOk.intro 11 Tryz.func38 rfl Tryz.ntmps38 (Nat.le_of_ble_eq_true rfl) ?_
  intro c a w hG hn h
  unfold merkle_node at hF
  change SatL c [.slot 0 (eqVP p_0), .slot 1 (aggVP [bytesCk 32 a_1]), .slot 2 (aggVP [bytesCk 32 a_2]), .res (Log_e p_0 L_0)] a w at h
  refine regS mixed hn hG h [0, 505, 503, 501, 3, 504, 502, 500] (ob [1] (op_box q0 (cells_agg _)) <| ob [2] (op_box q0 (cells_agg _)) <| ob [] (op_alloc Tryz.zeroValue23 z23) .nil) fun b1 a w h => ?_
  obtain ⟨r4, hr4, hF⟩ := bind_some hF
  refine regS mixed hn hG h [3, 500, 501] (ov [0] (op_move q0) <| ov [1, 5] (op_load_w 1 Tryz.isAgg23 Tryz.sizeOf23 q0) <| ov [2, 6] (op_load_w 1 Tryz.isAgg23 Tryz.sizeOf23 q0) <| oc [502, 501, 500] [4] Tryz.call37 (digest_Log_Two_ok hr4) ⟨q0, qi, q1, q2, trivial⟩ <| ou [3, 501] 7 (op_store_w Tryz.sizeOf23 q0 q1 (cells_agg _)) .nil) fun _ a w h => ?_
  refine wp_ret ?_
  obtain rfl := Option.some.inj hF
  exact ⟨.inl rfl, ret1 h Tryz.results38 (r_cell 0 1 rfl rfl Tryz.isAgg23 Tryz.sizeOf23 rfl) [2] [(Log_e p_0 r4.2)] rfl rfl rfl⟩

def merkle_noughts.b1 (x6 : Int) (x7 : Option O_Log) (x8 : List (List UInt8)) : Option (Flow ((List (List UInt8)) × (Option O_Log)) (Int × (Option O_Log) × (List (List UInt8)))) := (if (decide (x6 < (32 : Int))) = true then (if (0 : Int) ≤ x6 ∧ x6 < 33 then ((merkle_node x7 (x8.getD x6.toNat default) (x8.getD x6.toNat default)).bind fun r18 => (if (0 : Int) ≤ IntKind.wrap .i64 (x6 + 1) ∧ IntKind.wrap .i64 (x6 + 1) < 33 then some (.cont (IntKind.wrap .i64 (x6 + 1), r18.2, x8.set (IntKind.wrap .i64 (x6 + 1)).toNat r18.1)) else none)) else none) else some (.brk (x6, x7, x8)))
def merkle_noughts (L_0 : Option O_Log) : Option ((List (List UInt8)) × (Option O_Log)) := ((loopN (fun s : Int × (Option O_Log) × (List (List UInt8)) => merkle_noughts.b1 s.1 s.2.1 s.2.2) ((32 - 0 : Int).toNat + 2) (0, L_0, (List.replicate 33 (List.replicate 32 0)))).bind fun cr => match cr with | .ret r => some r | .next (y24, y25, y26) => some (y26, y25))
theorem merkle_noughts_ok {p_0 : Value} {L_0 : Option O_Log} {r : (List (List UInt8)) × (Option O_Log)} (hF : merkle_noughts L_0 = some r) : CallOk Tryz.prog KG 20 [(eqVP p_0)] [(Log_e p_0 L_0)] (fun _ => [Log_e p_0 r.2]) (aggVP [arrCk 33 32 (dC 32) (lens_dC 32) r.1]) := by
  refine CallOk.intro 21 Tryz.func20 rfl Tryz.ntmps20 (Nat.le_of_ble_eq_true rfl) ?_
  intro c a w hG hn h
  unfold merkle_noughts at hF
  change SatL c [.slot 0 (eqVP p_0), .res (Log_e p_0 L_0)] a w at h
  refine regS mixed hn hG h [0, 501, 1, 500] (ob [] (op_alloc Tryz.zeroValue69 z69) .nil) fun b1 a w h => ?_
  refine regS mixed hn hG h [0, 1, 501, 2, 3, 500] (ob [] (op_alloc Tryz.zeroValue69 z69) .nil) fun b2 a w h => ?_
  refine wp_seq ?_
  refine regS mixed hn hG h [0, 1, 2, 500, 3, 4, 5] (ov [] (op_move qi) .nil) fun _ a w h => ?_
  refine wp_block ?_
  obtain ⟨cr20, hl21, hF⟩ := bind_some hF
  refine wp_mono (wp_loopN (R := (List (List UInt8)) × (Option O_Log)) (S := Int × (Option O_Log) × (List (List UInt8))) (fun s a w => SatL c [.slot 0 (eqVP p_0), .slot 2 (lpVP (b1 0) 0), .slot 3 (lpVP (b2 0) 0), .slot 5 (intVP .i64 s.1), .res (Log_e p_0 s.2.1), .res (lb (b1 0) 69 [arrCk 33 32 (dC 32) (lens_dC 32) (List.replicate 33 (List.replicate 32 0))]), .res (lb (b2 0) 69 [arrCk 33 32 (dC 32) (lens_dC 32) s.2.2])] a w) (fun res e a w => match res with | .next s => e = .exit 0 ∧ SatL c [.slot 2 (lpVP (b1 0) 0), .slot 3 (lpVP (b2 0) 0), .res (Log_e p_0 s.2.1), .res (lb (b1 0) 69 [arrCk 33 32 (dC 32) (lens_dC 32) (List.replicate 33 (List.replicate 32 0))]), .res (lb (b2 0) 69 [arrCk 33 32 (dC 32) (lens_dC 32) s.2.2])] a w | .ret r => e = .ret ∧ RetOk Tryz.prog Tryz.f20 c (aggVP [arrCk 33 32 (dC 32) (lens_dC 32) r.1]) (fun _ => [Log_e p_0 r.2]) a w) ?_ _ (0, L_0, (List.replicate 33 (List.replicate 32 0))) _ _ _ (h.sub [0, 1, 2, 3, 4, 5, 6] (by rfl)) hl21) ?_
  · clear hl21 hF h
    intro s a w o h hF
    obtain ⟨x6, x7, x8⟩ := s
    change merkle_noughts.b1 x6 x7 x8 = some o at hF
    unfold merkle_noughts.b1 at hF
    change SatL c [.slot 0 (eqVP p_0), .slot 2 (lpVP (b1 0) 0), .slot 3 (lpVP (b2 0) 0), .slot 5 (intVP .i64 x6), .res (Log_e p_0 x7), .res (lb (b1 0) 69 [arrCk 33 32 (dC 32) (lens_dC 32) (List.replicate 33 (List.replicate 32 0))]), .res (lb (b2 0) 69 [arrCk 33 32 (dC 32) (lens_dC 32) x8])] a w at h
    refine regS mixed hn hG h [0, 1, 2, 3, 500, 4, 5, 6] (ov [3] (op_bin bin_lss q0 qi) .nil) fun _ a w h => ?_
    refine wp_seq ?_
    refine cnd h hF 4 [0, 1, 2, 3, 5, 6, 7] [0, 1, 2, 3, 5, 6, 7] (fun hb16 hF h => ?_) (fun hb16 hF h => ?_)
    · refine wp_skip ?_
      show Code.wp Tryz.prog _ _ a w
      refine wp_seq ?_
      refine wp_block ?_
      refine regS mixed hn hG h [0, 1, 2, 500, 3, 4, 5, 6] (ov [3] (op_move q0) <| ov [500] (op_assign q0) .nil) fun _ a w h => ?_
      obtain ⟨hv17, hF⟩ := ite_some hF
      obtain ⟨r18, hr18, hF⟩ := bind_some hF
      obtain ⟨hv19, hF⟩ := ite_some hF
      refine reg mixed hn hG h [0, 1, 2, 4, 6, 500, 502] (ov [3] (op_move q0) <| ov [500] (op_bin bin_add q0 qi) <| ov [0] (op_move q0) <| ov [3] (op_move q0) <| ov [2, 500] (op_indexAddr_lb Tryz.underlying69 Tryz.sizeOf23 q0 q1 hv17) <| ov [500, 7] (op_load_lbA (i := x6) [] [] 1 Tryz.isAgg23 Tryz.sizeOf23 q0 rfl rfl hv17) <| ov [3] (op_move q0) <| ov [2, 500] (op_indexAddr_lb Tryz.underlying69 Tryz.sizeOf23 q0 q1 hv17) <| ov [500, 7] (op_load_lbA (i := x6) [] [] 1 Tryz.isAgg23 Tryz.sizeOf23 q0 rfl rfl hv17) <| oc [506, 503, 500] [5] Tryz.call38 (merkle_node_ok hr18) ⟨q0, q1, q2, trivial⟩ <| ov [2, 509] (op_indexAddr_lb Tryz.underlying69 Tryz.sizeOf23 q0 q1 hv19) <| ou [500, 502] 7 (op_store_lbA (i := IntKind.wrap .i64 (x6 + 1)) [] [] Tryz.sizeOf23 q0 q1 rfl hv19) .nil) fun _ a w h => ?_
      show Code.wp Tryz.prog _ _ a w
      refine reg mixed hn hG h [0, 1, 2, 500, 4, 5, 6] (ov [3] (op_bin bin_add q0 qi) <| od [500] 3 (op_move q0) .nil) fun _ a w h => ?_
      obtain rfl := Option.some.inj hF
      exact ⟨rfl, h.sub [0, 1, 2, 3, 6, 4, 5] (by rfl)⟩
    · refine wp_exit ?_
      obtain rfl := Option.some.inj hF
      exact ⟨exit_ne _, rfl, h.sub [1, 2, 4, 5, 6] (by rfl)⟩
  · clear hl21
    intro e a w hq
    cases cr20 with
    | ret r22 =>
      obtain ⟨rfl, hq⟩ := hq
      obtain rfl := Option.some.inj hF
      exact ⟨.inl rfl, hq⟩
    | next s23 =>
      obtain ⟨y24, y25, y26⟩ := s23
      obtain ⟨rfl, h⟩ := hq
      change SatL c [.slot 2 (lpVP (b1 0) 0), .slot 3 (lpVP (b2 0) 0), .res (Log_e p_0 y25), .res (lb (b1 0) 69 [arrCk 33 32 (dC 32) (lens_dC 32) (List.replicate 33 (List.replicate 32 0))]), .res (lb (b2 0) 69 [arrCk 33 32 (dC 32) (lens_dC 32) y26])] a w at h
      refine inBlock_at ?_
      show Code.wp Tryz.prog _ _ a w
      refine regS mixed hn hG h [0, 2, 500] (ov [1, 4] (op_load_w 1 Tryz.isAgg69 Tryz.sizeOf69 q0) <| ou [0, 500] 3 (op_store_w Tryz.sizeOf69 q0 q1 (cells_agg _)) .nil) fun _ a w h => ?_
      refine wp_ret ?_
      obtain rfl := Option.some.inj hF
      exact ⟨.inl rfl, ret1 h Tryz.results20 (r_cell 0 2 rfl rfl Tryz.isAgg69 Tryz.sizeOf69 rfl) [1] [(Log_e p_0 y25)] rfl rfl rfl⟩

def merkle_up.j1 (a_1 : List (List UInt8)) (x20 : Int) (x21 : Option O_Log) (x22 : List (List UInt8)) (x39 : List UInt8) : Option (Flow ((List (List UInt8)) × (Option O_Log)) (Int × (Option O_Log) × (List (List UInt8)))) := (if (0 : Int) ≤ x20 ∧ x20 < a_1.length then ((merkle_node x21 (a_1.getD x20.toNat default) x39).bind fun r41 => (if x22.length + [r41.1].length ≤ mxl ∧ (x22.length + [r41.1].length) * 32 ≤ 140737488355328 then some (.cont (IntKind.wrap .i64 (x20 + 2), r41.2, x22 ++ [r41.1])) else none)) else none)
def merkle_up.b1 (a_1 : List (List UInt8)) (a_2 : List UInt8) (x20 : Int) (x21 : Option O_Log) (x22 : List (List UInt8)) : Option (Flow ((List (List UInt8)) × (Option O_Log)) (Int × (Option O_Log) × (List (List UInt8)))) := (if (decide (x20 < (a_1.length : Int))) = true then (if (decide ((IntKind.wrap .i64 (x20 + 1)) < (a_1.length : Int))) = true then (if (0 : Int) ≤ IntKind.wrap .i64 (x20 + 1) ∧ IntKind.wrap .i64 (x20 + 1) < a_1.length then merkle_up.j1 a_1 x20 x21 x22 (a_1.getD (IntKind.wrap .i64 (x20 + 1)).toNat default) else none) else merkle_up.j1 a_1 x20 x21 x22 a_2) else some (.brk (x20, x21, x22)))
def merkle_up (L_0 : Option O_Log) (a_1 : List (List UInt8)) (a_2 : List UInt8) : Option ((List (List UInt8)) × (Option O_Log)) := ((loopN (fun s : Int × (Option O_Log) × (List (List UInt8)) => merkle_up.b1 a_1 a_2 s.1 s.2.1 s.2.2) (((a_1.length : Int) - 0 : Int).toNat + 2) (0, L_0, [])).bind fun cr => match cr with | .ret r => some r | .next (y50, y51, y52) => some (y52, y51))
theorem merkle_up_ok {p_0 : Value} {L_0 : Option O_Log} {a_1 : List (List UInt8)} {a_2 : List UInt8} {r : (List (List UInt8)) × (Option O_Log)} (hF : merkle_up L_0 a_1 a_2 = some r) : CallOk Tryz.prog KG 21 [(eqVP p_0), (slVP (dC 32) a_1), (aggVP [bytesCk 32 a_2])] [(Log_e p_0 L_0)] (fun _ => [Log_e p_0 r.2]) (slVP (dC 32) r.1) := by
  refine CallOk.intro 38 Tryz.func21 rfl Tryz.ntmps21 (Nat.le_of_ble_eq_true rfl) ?_
  intro c a w hG hn h
  unfold merkle_up at hF
  change SatL c [.slot 0 (eqVP p_0), .slot 1 (slVP (dC 32) a_1), .slot 2 (aggVP [bytesCk 32 a_2]), .res (Log_e p_0 L_0)] a w at h
  refine regS mixed hn hG h [0, 1, 502, 3, 501] (ob [2] (op_box q0 (cells_agg _)) <| ov [] (op_assign (opc (ec _))) .nil) fun b1 a w h => ?_
  refine regS mixed hn hG h [0, 1, 2, 500, 3, 4] (ov [] (op_assign (opc (ec _))) .nil) fun _ a w h => ?_
  refine wp_seq ?_
  refine regS mixed hn hG h [0, 1, 2, 3, 500, 4, 5] (ov [] (op_assign qi) .nil) fun _ a w h => ?_
  refine wp_block ?_
  obtain ⟨q11, h⟩ : ∃ q11 : Value, SatL c [.slot 0 (eqVP p_0), .slot 1 (slVP (dC 32) a_1), .slot 5 (lpVP (b1 0) 0), .slot 7 (eqVP q11), .slot 8 (intVP .i64 0), .res (Log_e p_0 L_0), .res (lb (b1 0) 23 [bytesCk 32 a_2]), .res (acc q11 23 32 (dC 32) [])] a w := ⟨.slice none 0 0, (h.nilacc 23 32 (dC 32)).sub [0, 1, 2, 3, 4, 5, 6, 7] (by rfl)⟩
  obtain ⟨cr46, hl47, hF⟩ := bind_some hF
  refine wp_mono (wp_loopN (R := (List (List UInt8)) × (Option O_Log)) (S := Int × (Option O_Log) × (List (List UInt8))) (fun s a w => ∃ q23 : Value, SatL c [.slot 0 (eqVP p_0), .slot 1 (slVP (dC 32) a_1), .slot 5 (lpVP (b1 0) 0), .slot 7 (eqVP q23), .slot 8 (intVP .i64 s.1), .res (Log_e p_0 s.2.1), .res (lb (b1 0) 23 [bytesCk 32 a_2]), .res (acc q23 23 32 (dC 32) s.2.2)] a w) (fun res e a w => match res with | .next s => e = .exit 0 ∧ ∃ q23 : Value, SatL c [.slot 7 (eqVP q23), .res (Log_e p_0 s.2.1), .res (acc q23 23 32 (dC 32) s.2.2)] a w | .ret r => e = .ret ∧ RetOk Tryz.prog Tryz.f21 c (slVP (dC 32) r.1) (fun _ => [Log_e p_0 r.2]) a w) ?_ _ (0, L_0, []) _ _ _ ⟨q11, (h.sub [0, 1, 2, 3, 4, 5, 6, 7] (by rfl))⟩ hl47) ?_
  · clear hl47 hF h
    intro s a w o h hF
    obtain ⟨x20, x21, x22⟩ := s
    obtain ⟨q23, h⟩ := h
    change merkle_up.b1 a_1 a_2 x20 x21 x22 = some o at hF
    unfold merkle_up.b1 at hF
    change SatL c [.slot 0 (eqVP p_0), .slot 1 (slVP (dC 32) a_1), .slot 5 (lpVP (b1 0) 0), .slot 7 (eqVP q23), .slot 8 (intVP .i64 x20), .res (Log_e p_0 x21), .res (lb (b1 0) 23 [bytesCk 32 a_2]), .res (acc q23 23 32 (dC 32) x22)] a w at h
    refine wp_seq ?_
    refine regS mixed hn hG h [0, 1, 2, 3, 4, 500, 5, 6, 7] (ov [4] (op_move q0) <| ov [1] (op_move q0) <| ov [500] (op_len_sl Tryz.underlying27 q0) <| ov [502, 500] (op_bin bin_lss q0 q1) .nil) fun _ a w h => ?_
    refine cnd h hF 5 [0, 1, 2, 3, 4, 6, 7, 8] [0, 1, 2, 3, 4, 6, 7, 8] (fun hb36 hF h => ?_) (fun hb36 hF h => ?_)
    · refine wp_skip ?_
      show Code.wp Tryz.prog _ _ a w
      refine wp_seq ?_
      refine wp_block ?_
      refine regS mixed hn hG h [0, 1, 2, 3, 4, 502, 5, 6, 7, 500] (ov [2, 6] (op_load_w 1 Tryz.isAgg23 Tryz.sizeOf23 q0) <| ob [] (op_alloc Tryz.zeroValue23 z23) <| og [501, 502] [500] [.res 1 100000 (fun v1_ _ => (lb (v1_) 23 [bytesCk 32 a_2]))] (GOk.plain (op_store_w Tryz.sizeOf23 q0 q1 (cells_agg _)) rfl) .nil) fun b37 a w h => ?_
      refine wp_seq ?_
      refine regS mixed hn hG h [0, 1, 2, 3, 4, 5, 500, 6, 7, 8, 9] (ov [4] (op_move q0) <| ov [500] (op_bin bin_add q0 qi) <| ov [1] (op_move q0) <| ov [500] (op_len_sl Tryz.underlying27 q0) <| ov [502, 500] (op_bin bin_lss q0 q1) .nil) fun _ a w h => ?_
      refine wp_cut (fun a w => ∃ (x39 : List UInt8), merkle_up.j1 a_1 x20 x21 x22 x39 = some o ∧ SatL c [.slot 0 (eqVP p_0), .slot 1 (slVP (dC 32) a_1), .slot 5 (lpVP (b1 0) 0), .slot 7 (eqVP q23), .slot 8 (intVP .i64 x20), .slot 9 (lpVP (b37 1) 0), .res (Log_e p_0 x21), .res (lb (b1 0) 23 [bytesCk 32 a_2]), .res (acc q23 23 32 (dC 32) x22), .res (lb (b37 1) 23 [bytesCk 32 x39])] a w) ?_ ?_
      · refine cnd h hF 6 [0, 1, 2, 3, 4, 5, 7, 8, 9, 10] [0, 1, 2, 3, 4, 5, 7, 8, 9, 10] (fun hb44 hF h => ?_) (fun hb44 hF h => ?_)
        · obtain ⟨hv45, hF⟩ := ite_some hF
          refine reg mixed hn hG h [0, 1, 2, 3, 4, 5, 6, 7, 8, 500] (ov [1] (op_move q0) <| ov [4] (op_move q0) <| ov [500] (op_bin bin_add q0 qi) <| ov [502, 500] (op_indexAddr_sl Tryz.underlying27 Tryz.sizeOf23 (lens_dC 32) q0 q1 hv45) <| ov [500] (op_load_pp [bytesCk 32 (a_1.getD (IntKind.wrap .i64 (x20 + 1)).toNat default)] [] Tryz.isAgg23 Tryz.sizeOf23 q0 rfl) <| ou [5, 500] 9 (op_store_w Tryz.sizeOf23 q0 q1 (cells_agg _)) .nil) fun _ a w h => ?_
          exact ⟨a_1.getD (IntKind.wrap .i64 (x20 + 1)).toNat default, hF, h.sub [0, 1, 2, 3, 4, 5, 6, 7, 8, 9] (by rfl)⟩
        · refine wp_skip ?_
          exact ⟨a_2, hF, h.sub [0, 1, 2, 3, 4, 5, 6, 7, 8, 9] (by rfl)⟩
      · clear h hF
        rintro a w ⟨x39, hF, h⟩
        unfold merkle_up.j1 at hF
        show Code.wp Tryz.prog _ _ a w
        obtain ⟨hv40, hF⟩ := ite_some hF
        obtain ⟨r41, hr41, hF⟩ := bind_some hF
        obtain ⟨hv42, hF⟩ := ite_some hF
        refine reg mixed hn hG h [0, 1, 2, 500, 4, 7, 504, 501] (ov [3] (op_move q0) <| ov [0] (op_move q0) <| ov [1] (op_move q0) <| ov [4] (op_move q0) <| ov [501, 500] (op_indexAddr_sl Tryz.underlying27 Tryz.sizeOf23 (lens_dC 32) q0 q1 hv40) <| ov [500] (op_load_pp [bytesCk 32 (a_1.getD x20.toNat default)] [] Tryz.isAgg23 Tryz.sizeOf23 q0 rfl) <| ov [5, 9] (op_load_w 1 Tryz.isAgg23 Tryz.sizeOf23 q0) <| oc [505, 501, 500] [6] Tryz.call38 (merkle_node_ok hr41) ⟨q0, q1, q2, trivial⟩ <| ov [501] (op_lit (xs := [.tmp 34]) (ys := [r41.1]) _ rfl Tryz.underlying27 Tryz.sizeOf23 Tryz.zeroValue23 rfl rfl (by decide) (by decide) ⟨⟨_, q0, (cells_agg _)⟩, trivial⟩ (lens_dC 32)) <| og [509, 500] [8] [.slot 36 9 100000 (fun v1_ _ => (eqVP v1_)), .res 9 100000 (fun v1_ _ => (acc (v1_) 23 32 (dC 32) (x22 ++ [r41.1])))] (GOk.plain (op_append (i := Tryz.t23) Tryz.underlying27 Tryz.type23 rfl (lens_dC 32) (by decide) rfl q0 q1 hv42) rfl) <| og [501] [3] [.slot 7 9 100000 (fun v1_ _ => (eqVP v1_))] (fun {β} => (GOk.drop _ (GOk.plain (op_assign (V := (eqVP (β 9))) q0) rfl))) .nil) fun b43 a w h => ?_
        show Code.wp Tryz.prog _ _ a w
        refine reg mixed hn hG h [0, 1, 2, 3, 500, 5, 6, 7] (ov [4] (op_move q0) <| ov [500] (op_bin bin_add q0 qi) <| od [500] 4 (op_assign q0) .nil) fun _ a w h => ?_
        obtain rfl := Option.some.inj hF
        exact ⟨rfl, (b43 9), h.sub [0, 1, 2, 3, 4, 6, 5, 7] (by rfl)⟩
    · refine wp_exit ?_
      obtain rfl := Option.some.inj hF
      exact ⟨exit_ne _, rfl, q23, h.sub [3, 5, 7] (by rfl)⟩
  · clear hl47
    intro e a w hq
    cases cr46 with
    | ret r48 =>
      obtain ⟨rfl, hq⟩ := hq
      obtain rfl := Option.some.inj hF
      exact ⟨.inl rfl, hq⟩
    | next s49 =>
      obtain ⟨y50, y51, y52⟩ := s49
      obtain ⟨rfl, q23, h⟩ := hq
      change SatL c [.slot 7 (eqVP q23), .res (Log_e p_0 y51), .res (acc q23 23 32 (dC 32) y52)] a w at h
      refine inBlock_at ?_
      show Code.wp Tryz.prog _ _ a w
      refine regS mixed hn hG h [500, 1, 2] (ov [0] (op_move q0) <| ov [500] (op_assign q0) .nil) fun _ a w h => ?_
      refine wp_ret ?_
      obtain rfl := Option.some.inj hF
      exact ⟨.inl rfl, ret1 h Tryz.results21 (r_acc 0 2 rfl rfl) [1] [(Log_e p_0 y51)] rfl rfl rfl⟩

def merkle_Of.b1 (r3 : (List (List UInt8)) × (Option O_Log)) (x7 : List (List UInt8)) (x8 : Int) (x9 : Option O_Log) : Option (Flow ((List UInt8) × (Option O_Log)) ((List (List UInt8)) × Int × (Option O_Log))) := (if (decide (x8 < (32 : Int))) = true then (if (0 : Int) ≤ x8 ∧ x8 < 33 then ((merkle_up x9 x7 (r3.1.getD x8.toNat default)).bind fun r18 => some (.cont (r18.1, IntKind.wrap .i64 (x8 + 1), r18.2))) else none) else some (.brk (x7, x8, x9)))
def merkle_Of (L_0 : Option O_Log) (a_1 : List (List UInt8)) : Option ((List UInt8) × (Option O_Log)) := (if (0 : Int) ≤ 0 ∧ (0 : Int) ≤ (if (4096 : Int) < (a_1.length : Int) then (4096 : Int) else (a_1.length : Int)) ∧ (if (4096 : Int) < (a_1.length : Int) then (4096 : Int) else (a_1.length : Int)) ≤ a_1.length then ((merkle_noughts L_0).bind fun r3 => ((loopN (fun s : (List (List UInt8)) × Int × (Option O_Log) => merkle_Of.b1 r3 s.1 s.2.1 s.2.2) ((32 - 0 : Int).toNat + 2) ((a_1.take (if (4096 : Int) < (a_1.length : Int) then (4096 : Int) else (a_1.length : Int)).toNat).drop (0 : Int).toNat, 0, r3.2)).bind fun cr => match cr with | .ret r => some r | .next (y23, y24, y25) => (if (decide ((y23.length : Int) = (0 : Int))) = true then some (r3.1.getD (32 : Int).toNat default, y25) else (if (0 : Int) ≤ 0 ∧ (0 : Int) < y23.length then some (y23.getD (0 : Int).toNat default, y25) else none)))) else none)
theorem merkle_Of_ok {p_0 : Value} {L_0 : Option O_Log} {a_1 : List (List UInt8)} {r : (List UInt8) × (Option O_Log)} (hF : merkle_Of L_0 a_1 = some r) : CallOk Tryz.prog KG 8 [(eqVP p_0), (slVP (dC 32) a_1)] [(Log_e p_0 L_0)] (fun _ => [Log_e p_0 r.2]) (aggVP [bytesCk 32 r.1]) := by
  refine CallOk.intro 33 Tryz.func8 rfl Tryz.ntmps8 (Nat.le_of_ble_eq_true rfl) ?_
  intro c a w hG hn h
  unfold merkle_Of at hF
  change SatL c [.slot 0 (eqVP p_0), .slot 1 (slVP (dC 32) a_1), .res (Log_e p_0 L_0)] a w at h
  refine regS mixed hn hG h [0, 1, 501, 2, 500] (ob [] (op_alloc Tryz.zeroValue23 z23) .nil) fun b1 a w h => ?_
  obtain ⟨hv2, hF⟩ := ite_some hF
  refine regS mixed hn hG h [0, 2, 500, 3, 4] (ov [1] (op_move q0) <| ov [1] (op_move q0) <| ov [500] (op_len_sl Tryz.underlying27 q0) <| ov [500] (op_min q0 qi) <| ov [503, 500] (op_slice_sl (a := 0) (b := (if (4096 : Int) < (a_1.length : Int) then (4096 : Int) else (a_1.length : Int))) Tryz.underlying27 Tryz.sizeOf23 (lens_dC 32) q0 rfl ⟨_, q1⟩ hv2) <| ov [500] (op_assign q0) .nil) fun _ a w h => ?_
  obtain ⟨r3, hr3, hF⟩ := bind_some hF
  refine regS mixed hn hG h [0, 1, 2, 502, 4, 503, 500] (ov [0] (op_move q0) <| oc [500] [3] Tryz.call20 (merkle_noughts_ok hr3) ⟨q0, trivial⟩ <| ob [] (op_alloc Tryz.zeroValue69 z69) <| og [501, 503] [500] [.res 2 100000 (fun v1_ _ => (lb (v1_) 69 [arrCk 33 32 (dC 32) (lens_dC 32) r3.1]))] (GOk.plain (op_store_w Tryz.sizeOf69 q0 q1 (cells_agg _)) rfl) .nil) fun b4 a w h => ?_
  refine wp_seq ?_
  refine regS mixed hn hG h [0, 1, 2, 3, 500, 4, 5, 6] (ov [] (op_move qi) .nil) fun _ a w h => ?_
  refine wp_block ?_
  obtain ⟨cr19, hl20, hF⟩ := bind_some hF
  refine wp_mono (wp_loopN (R := (List UInt8) × (Option O_Log)) (S := (List (List UInt8)) × Int × (Option O_Log)) (fun s a w => SatL c [.slot 0 (eqVP p_0), .slot 4 (lpVP (b1 0) 0), .slot 5 (slVP (dC 32) s.1), .slot 6 (lpVP (b4 2) 0), .slot 15 (intVP .i64 s.2.1), .res (lb (b1 0) 23 [bytesCk 32 (List.replicate 32 0)]), .res (Log_e p_0 s.2.2), .res (lb (b4 2) 69 [arrCk 33 32 (dC 32) (lens_dC 32) r3.1])] a w) (fun res e a w => match res with | .next s => e = .exit 0 ∧ SatL c [.slot 4 (lpVP (b1 0) 0), .slot 5 (slVP (dC 32) s.1), .slot 6 (lpVP (b4 2) 0), .res (lb (b1 0) 23 [bytesCk 32 (List.replicate 32 0)]), .res (Log_e p_0 s.2.2), .res (lb (b4 2) 69 [arrCk 33 32 (dC 32) (lens_dC 32) r3.1])] a w | .ret r => e = .ret ∧ RetOk Tryz.prog Tryz.f8 c (aggVP [bytesCk 32 r.1]) (fun _ => [Log_e p_0 r.2]) a w) ?_ _ ((a_1.take (if (4096 : Int) < (a_1.length : Int) then (4096 : Int) else (a_1.length : Int)).toNat).drop (0 : Int).toNat, 0, r3.2) _ _ _ (h.sub [0, 1, 2, 3, 4, 5, 6, 7] (by rfl)) hl20) ?_
  · clear hl20 hF h
    intro s a w o h hF
    obtain ⟨x7, x8, x9⟩ := s
    change merkle_Of.b1 r3 x7 x8 x9 = some o at hF
    unfold merkle_Of.b1 at hF
    change SatL c [.slot 0 (eqVP p_0), .slot 4 (lpVP (b1 0) 0), .slot 5 (slVP (dC 32) x7), .slot 6 (lpVP (b4 2) 0), .slot 15 (intVP .i64 x8), .res (lb (b1 0) 23 [bytesCk 32 (List.replicate 32 0)]), .res (Log_e p_0 x9), .res (lb (b4 2) 69 [arrCk 33 32 (dC 32) (lens_dC 32) r3.1])] a w at h
    refine regS mixed hn hG h [0, 1, 2, 3, 4, 500, 5, 6, 7] (ov [4] (op_bin bin_lss q0 qi) .nil) fun _ a w h => ?_
    refine wp_seq ?_
    refine cnd h hF 5 [0, 1, 2, 3, 4, 6, 7, 8] [0, 1, 2, 3, 4, 6, 7, 8] (fun hb16 hF h => ?_) (fun hb16 hF h => ?_)
    · refine wp_skip ?_
      show Code.wp Tryz.prog _ _ a w
      refine wp_seq ?_
      refine wp_block ?_
      refine regS mixed hn hG h [0, 1, 2, 3, 500, 4, 5, 6, 7] (ov [4] (op_move q0) <| ov [500] (op_assign q0) .nil) fun _ a w h => ?_
      obtain ⟨hv17, hF⟩ := ite_some hF
      obtain ⟨r18, hr18, hF⟩ := bind_some hF
      refine reg mixed hn hG h [0, 1, 500, 3, 5, 6, 8, 501] (ov [0] (op_move q0) <| ov [2] (op_move q0) <| ov [4] (op_move q0) <| ov [3, 500] (op_indexAddr_lb Tryz.underlying69 Tryz.sizeOf23 q0 q1 hv17) <| ov [500, 8] (op_load_lbA (i := x8) [] [] 1 Tryz.isAgg23 Tryz.sizeOf23 q0 rfl rfl hv17) <| oc [504, 503, 500] [7] Tryz.call21 (merkle_up_ok hr18) ⟨q0, q1, q2, trivial⟩ <| od [501] 2 (op_assign q0) .nil) fun _ a w h => ?_
      show Code.wp Tryz.prog _ _ a w
      refine reg mixed hn hG h [0, 1, 2, 3, 500, 5, 6, 7] (ov [4] (op_bin bin_add q0 qi) <| od [500] 4 (op_move q0) .nil) fun _ a w h => ?_
      obtain rfl := Option.some.inj hF
      exact ⟨rfl, h.sub [0, 1, 2, 3, 4, 5, 7, 6] (by rfl)⟩
    · refine wp_exit ?_
      obtain rfl := Option.some.inj hF
      exact ⟨exit_ne _, rfl, h.sub [1, 2, 3, 5, 6, 7] (by rfl)⟩
  · clear hl20
    intro e a w hq
    cases cr19 with
    | ret r21 =>
      obtain ⟨rfl, hq⟩ := hq
      obtain rfl := Option.some.inj hF
      exact ⟨.inl rfl, hq⟩
    | next s22 =>
      obtain ⟨y23, y24, y25⟩ := s22
      obtain ⟨rfl, h⟩ := hq
      change SatL c [.slot 4 (lpVP (b1 0) 0), .slot 5 (slVP (dC 32) y23), .slot 6 (lpVP (b4 2) 0), .res (lb (b1 0) 23 [bytesCk 32 (List.replicate 32 0)]), .res (Log_e p_0 y25), .res (lb (b4 2) 69 [arrCk 33 32 (dC 32) (lens_dC 32) r3.1])] a w at h
      refine inBlock_at ?_
      show Code.wp Tryz.prog _ _ a w
      refine wp_seq ?_
      refine regS mixed hn hG h [0, 1, 2, 500, 3, 4, 5] (ov [1] (op_move q0) <| ov [500] (op_len_sl Tryz.underlying27 q0) <| ov [500] (op_bin bin_eql q0 qi) .nil) fun _ a w h => ?_
      refine cnd h hF 3 [0, 2, 4, 5, 6] [0, 1, 4, 5] (fun hb26 hF h => ?_) (fun hb26 hF h => ?_)
      · refine regS mixed hn hG h [0, 500, 3] (ov [1] (op_indexAddr_lb Tryz.underlying69 Tryz.sizeOf23 q0 qi (by decide)) <| ov [500, 4] (op_load_lbA (i := 32) [] [] 1 Tryz.isAgg23 Tryz.sizeOf23 q0 rfl rfl (by decide)) <| ou [0, 500] 2 (op_store_w Tryz.sizeOf23 q0 q1 (cells_agg _)) .nil) fun _ a w h => ?_
        refine wp_ret ?_
        obtain rfl := Option.some.inj hF
        exact ⟨.inl rfl, ret1 h Tryz.results8 (r_cell 0 1 rfl rfl Tryz.isAgg23 Tryz.sizeOf23 rfl) [2] [(Log_e p_0 y25)] rfl rfl rfl⟩
      · refine wp_skip ?_
        show Code.wp Tryz.prog _ _ a w
        obtain ⟨hv27, hF⟩ := ite_some hF
        refine regS mixed hn hG h [0, 500, 3] (ov [1] (op_move q0) <| ov [500] (op_indexAddr_sl Tryz.underlying27 Tryz.sizeOf23 (lens_dC 32) q0 qi hv27) <| ov [500] (op_load_pp [bytesCk 32 (y23.getD (0 : Int).toNat default)] [] Tryz.isAgg23 Tryz.sizeOf23 q0 rfl) <| ou [0, 500] 2 (op_store_w Tryz.sizeOf23 q0 q1 (cells_agg _)) .nil) fun _ a w h => ?_
        refine wp_ret ?_
        obtain rfl := Option.some.inj hF
        exact ⟨.inl rfl, ret1 h Tryz.results8 (r_cell 0 1 rfl rfl Tryz.isAgg23 Tryz.sizeOf23 rfl) [2] [(Log_e p_0 y25)] rfl rfl rfl⟩

def ref03_Big.b1 (x4 : Int) (x5 : Int) (x6 : List UInt8) : Option (Flow (List UInt8) (Int × Int × (List UInt8))) := (if (decide ((0 : Int) ≤ x5)) = true then (if (0 : Int) ≤ x5 ∧ x5 < 8 then some (.cont (IntKind.wrap .u64 (x4.tdiv 256), IntKind.wrap .i64 (x5 - 1), x6.set x5.toNat (u8of (IntKind.wrap .u8 (x4.tmod 256))))) else none) else some (.brk (x4, x5, x6)))
def ref03_Big (a_0 : Int) (a_1 : Int) : Option (List UInt8) := ((loopN (fun s : Int × Int × (List UInt8) => ref03_Big.b1 s.1 s.2.1 s.2.2) (((IntKind.wrap .i64 (a_1 - 1)) - 0 : Int).toNat + 2) (a_0, IntKind.wrap .i64 (a_1 - 1), (List.replicate 8 0))).bind fun cr => match cr with | .ret r => some r | .next (y18, y19, y20) => (if (0 : Int) ≤ 0 ∧ (0 : Int) ≤ a_1 ∧ a_1 ≤ 8 ∧ (0 : Int) < 8 then (if (a_1 : Int).toNat - (0 : Int).toNat ≤ 8 then some (y20.take ((a_1 : Int).toNat - (0 : Int).toNat)) else none) else none))
theorem ref03_Big_ok {a_0 : Int} {a_1 : Int} {r : (List UInt8)} (hF : ref03_Big a_0 a_1 = some r) : CallOk Tryz.prog KG 42 [(intVP .u64 a_0), (intVP .i64 a_1)] [] (fun _ => []) (strVP r) := by
  refine CallOk.intro 23 Tryz.func42 rfl Tryz.ntmps42 (Nat.le_of_ble_eq_true rfl) ?_
  intro c a w hG hn h
  unfold ref03_Big at hF
  change SatL c [.slot 0 (intVP .u64 a_0), .slot 1 (intVP .i64 a_1)] a w at h
  refine regS mixed hn hG h [0, 1] (ov [] (op_assign (opc (sc _ (by decide)))) .nil) fun _ a w h => ?_
  refine regS mixed hn hG h [0, 1, 501, 500] (ob [] (op_alloc Tryz.zeroValue135 z135) .nil) fun b1 a w h => ?_
  refine wp_seq ?_
  refine regS mixed hn hG h [0, 1, 2, 500, 3] (ov [1] (op_move q0) <| ov [500] (op_bin bin_sub q0 qi) <| ov [500] (op_assign q0) .nil) fun _ a w h => ?_
  refine wp_block ?_
  obtain ⟨cr14, hl15, hF⟩ := bind_some hF
  refine wp_mono (wp_loopN (R := (List UInt8)) (S := Int × Int × (List UInt8)) (fun s a w => SatL c [.slot 0 (intVP .u64 s.1), .slot 1 (intVP .i64 a_1), .slot 5 (lpVP (b1 0) 0), .slot 6 (intVP .i64 s.2.1), .res (lb (b1 0) 135 [bytesCk 8 s.2.2])] a w) (fun res e a w => match res with | .next s => e = .exit 0 ∧ SatL c [.slot 1 (intVP .i64 a_1), .slot 5 (lpVP (b1 0) 0), .res (lb (b1 0) 135 [bytesCk 8 s.2.2])] a w | .ret r => e = .ret ∧ RetOk Tryz.prog Tryz.f42 c (strVP r) (fun _ => []) a w) ?_ _ (a_0, IntKind.wrap .i64 (a_1 - 1), (List.replicate 8 0)) _ _ _ (h.sub [0, 1, 2, 3, 4] (by rfl)) hl15) ?_
  · clear hl15 hF h
    intro s a w o h hF
    obtain ⟨x4, x5, x6⟩ := s
    change ref03_Big.b1 x4 x5 x6 = some o at hF
    unfold ref03_Big.b1 at hF
    change SatL c [.slot 0 (intVP .u64 x4), .slot 1 (intVP .i64 a_1), .slot 5 (lpVP (b1 0) 0), .slot 6 (intVP .i64 x5), .res (lb (b1 0) 135 [bytesCk 8 x6])] a w at h
    refine wp_seq ?_
    refine regS mixed hn hG h [0, 1, 2, 3, 500, 4] (ov [3] (op_move q0) <| ov [500] (op_bin bin_geq q0 qi) .nil) fun _ a w h => ?_
    refine cnd h hF 4 [0, 1, 2, 3, 5] [0, 1, 2, 3, 5] (fun hb12 hF h => ?_) (fun hb12 hF h => ?_)
    · refine wp_skip ?_
      show Code.wp Tryz.prog _ _ a w
      refine wp_seq ?_
      refine wp_block ?_
      obtain ⟨hv13, hF⟩ := ite_some hF
      refine regS mixed hn hG h [0, 1, 2, 3, 500] (ov [3] (op_move q0) <| ov [0] (op_move q0) <| ov [500] (op_bin (bin_rem (by decide)) q0 qi) <| ov [500] (op_convert_int Tryz.underlying32 Tryz.underlying5 q0) <| ov [2, 503] (op_indexAddr_lb Tryz.underlying135 Tryz.sizeOf5 q0 q1 hv13) <| ou [500, 501] 4 (op_store_lbB (i := x5) [] [] Tryz.sizeOf5 q0 q1 rfl hv13) .nil) fun _ a w h => ?_
      refine reg mixed hn hG h [500, 1, 2, 3, 4] (ov [0] (op_move q0) <| ov [500] (op_bin (bin_quo (by decide)) q0 qi) <| od [500] 0 (op_assign q0) .nil) fun _ a w h => ?_
      show Code.wp Tryz.prog _ _ a w
      refine reg mixed hn hG h [0, 1, 2, 500, 4] (ov [3] (op_move q0) <| ov [500] (op_bin bin_sub q0 qi) <| od [500] 3 (op_assign q0) .nil) fun _ a w h => ?_
      obtain rfl := Option.some.inj hF
      exact ⟨rfl, h.sub [0, 1, 2, 3, 4] (by rfl)⟩
    · refine wp_exit ?_
      obtain rfl := Option.some.inj hF
      exact ⟨exit_ne _, rfl, h.sub [1, 2, 4] (by rfl)⟩
  · clear hl15
    intro e a w hq
    cases cr14 with
    | ret r16 =>
      obtain ⟨rfl, hq⟩ := hq
      obtain rfl := Option.some.inj hF
      exact ⟨.inl rfl, hq⟩
    | next s17 =>
      obtain ⟨y18, y19, y20⟩ := s17
      obtain ⟨rfl, h⟩ := hq
      change SatL c [.slot 1 (intVP .i64 a_1), .slot 5 (lpVP (b1 0) 0), .res (lb (b1 0) 135 [bytesCk 8 y20])] a w at h
      refine inBlock_at ?_
      show Code.wp Tryz.prog _ _ a w
      obtain ⟨hv21, hF⟩ := ite_some hF
      obtain ⟨hv22, hF⟩ := ite_some hF
      refine regS mixed hn hG h [500] (ov [0] (op_move q0) <| ov [1, 500] (op_slice_lb (a := 0) (b := a_1) Tryz.underlying135 Tryz.sizeOf5 q0 rfl ⟨_, q1⟩ hv21) <| ov [500, 2] (op_str_lsl [] [] 1 Tryz.underlying119 Tryz.underlying5 Tryz.underlying9 q0 rfl rfl hv22 (by decide)) <| ov [500] (op_assign q0) .nil) fun _ a w h => ?_
      refine wp_ret ?_
      obtain rfl := Option.some.inj hF
      exact ⟨.inl rfl, ret1 h Tryz.results42 (r_tmp 0 rfl) [] [] rfl rfl rfl⟩

def ref03_Text (a_0 : List UInt8) : Option (List UInt8) := ((ref03_Big (IntKind.wrap .u64 (a_0.length : Int)) 4).bind fun r1 => (if r1.length + a_0.length ≤ mxl then some (r1 ++ a_0) else none))
theorem ref03_Text_ok {a_0 : List UInt8} {r : (List UInt8)} (hF : ref03_Text a_0 = some r) : CallOk Tryz.prog KG 43 [(strVP a_0)] [] (fun _ => []) (strVP r) := by
  refine CallOk.intro 9 Tryz.func43 rfl Tryz.ntmps43 (Nat.le_of_ble_eq_true rfl) ?_
  intro c a w hG hn h
  unfold ref03_Text at hF
  change SatL c [.slot 0 (strVP a_0)] a w at h
  refine regS mixed hn hG h [0] (ov [] (op_assign (opc (sc _ (by decide)))) .nil) fun _ a w h => ?_
  obtain ⟨r1, hr1, hF⟩ := bind_some hF
  obtain ⟨hv2, hF⟩ := ite_some hF
  refine regS mixed hn hG h [500] (ov [0] (op_move q0) <| ov [500] (op_len_str Tryz.underlying9 q0) <| ov [500] (op_convert_int Tryz.underlying3 Tryz.underlying32 q0) <| oc [500] [] Tryz.call42 (ref03_Big_ok hr1) ⟨q0, qi, trivial⟩ <| ov [0] (op_move q0) <| ov [501, 500] (op_bin (bin_sadd hv2) q0 q1) <| ov [500] (op_assign q0) .nil) fun _ a w h => ?_
  refine wp_ret ?_
  obtain rfl := Option.some.inj hF
  exact ⟨.inl rfl, ret1 h Tryz.results43 (r_tmp 0 rfl) [] [] rfl rfl rfl⟩

def ref04_Input.b1 (a_1 : List (List UInt8)) (x5 : List UInt8) (x6 : Int) : Option (Flow (List UInt8) ((List UInt8) × Int)) := (if (decide (x6 < (a_1.length : Int))) = true then (if (0 : Int) ≤ x6 ∧ x6 < a_1.length then ((ref03_Text (a_1.getD x6.toNat default)).bind fun r15 => (if x5.length + r15.length ≤ mxl then some (.cont (x5 ++ r15, IntKind.wrap .i64 (x6 + 1))) else none)) else none) else some (.brk (x5, x6)))
def ref04_Input (a_0 : Int) (a_1 : List (List UInt8)) : Option (List UInt8) := ((loopN (fun s : (List UInt8) × Int => ref04_Input.b1 a_1 s.1 s.2) (((a_1.length : Int) - 0 : Int).toNat + 2) ([u8of a_0], 0)).bind fun cr => match cr with | .ret r => some r | .next (y21, y22) => some y21)
theorem ref04_Input_ok {a_0 : Int} {a_1 : List (List UInt8)} {r : (List UInt8)} (hF : ref04_Input a_0 a_1 = some r) : CallOk Tryz.prog KG 39 [(intVP .u8 a_0), (slVP strC a_1)] [] (fun _ => []) (strVP r) := by
  refine CallOk.intro 23 Tryz.func39 rfl Tryz.ntmps39 (Nat.le_of_ble_eq_true rfl) ?_
  intro c a w hG hn h
  unfold ref04_Input at hF
  change SatL c [.slot 0 (intVP .u8 a_0), .slot 1 (slVP strC a_1)] a w at h
  refine regS mixed hn hG h [0, 1] (ov [] (op_assign (opc (sc _ (by decide)))) .nil) fun _ a w h => ?_
  refine regS mixed hn hG h [1, 500] (ov [0] (op_move q0) <| ov [500] (op_lit (xs := [.tmp 8]) (ys := [u8of a_0]) _ rfl Tryz.underlying119 Tryz.sizeOf5 Tryz.zeroValue5 rfl rfl (by decide) (by decide) ⟨⟨_, q0, (cells_u8 _)⟩, trivial⟩ lens_bC) <| ov [500] (op_conv_sl_str Tryz.underlying119 Tryz.underlying5 Tryz.underlying9 q0) <| ov [500] (op_assign q0) .nil) fun _ a w h => ?_
  refine wp_seq ?_
  refine regS mixed hn hG h [1, 502, 501, 500] (ov [0] (op_move q0) <| ov [500] (op_len_sl Tryz.underlying75 q0) <| ov [] (op_move qi) .nil) fun _ a w h => ?_
  refine wp_block ?_
  obtain ⟨cr17, hl18, hF⟩ := bind_some hF
  refine wp_mono (wp_loopN (R := (List UInt8)) (S := (List UInt8) × Int) (fun s a w => SatL c [.slot 5 (strVP s.1), .slot 11 (slVP strC a_1), .slot 12 (intVP .i64 (a_1.length : Int)), .slot 13 (intVP .i64 s.2)] a w) (fun res e a w => match res with | .next s => e = .exit 0 ∧ SatL c [.slot 5 (strVP s.1)] a w | .ret r => e = .ret ∧ RetOk Tryz.prog Tryz.f39 c (strVP r) (fun _ => []) a w) ?_ _ ([u8of a_0], 0) _ _ _ (h.sub [0, 1, 2, 3] (by rfl)) hl18) ?_
  · clear hl18 hF h
    intro s a w o h hF
    obtain ⟨x5, x6⟩ := s
    change ref04_Input.b1 a_1 x5 x6 = some o at hF
    unfold ref04_Input.b1 at hF
    change SatL c [.slot 5 (strVP x5), .slot 11 (slVP strC a_1), .slot 12 (intVP .i64 (a_1.length : Int)), .slot 13 (intVP .i64 x6)] a w at h
    refine regS mixed hn hG h [0, 1, 2, 3, 500] (ov [3, 2] (op_bin bin_lss q0 q1) .nil) fun _ a w h => ?_
    refine wp_seq ?_
    refine cnd h hF 4 [0, 1, 2, 3] [0, 1, 2, 3] (fun hb13 hF h => ?_) (fun hb13 hF h => ?_)
    · refine wp_skip ?_
      show Code.wp Tryz.prog _ _ a w
      refine wp_seq ?_
      refine wp_block ?_
      obtain ⟨hv14, hF⟩ := ite_some hF
      refine regS mixed hn hG h [0, 500, 1, 2, 3] (ov [1, 3] (op_indexAddr_sl Tryz.underlying75 Tryz.sizeOf9 lens_strC q0 q1 hv14) <| ov [500] (op_load_pp1 [] Tryz.isAgg9 q0) <| ov [500] (op_assign q0) .nil) fun _ a w h => ?_
      obtain ⟨r15, hr15, hF⟩ := bind_some hF
      obtain ⟨hv16, hF⟩ := ite_some hF
      refine reg mixed hn hG h [500, 2, 3, 4] (ov [0] (op_move q0) <| ov [1] (op_move q0) <| oc [500] [] Tryz.call43 (ref03_Text_ok hr15) ⟨q0, trivial⟩ <| ov [502, 500] (op_bin (bin_sadd hv16) q0 q1) <| od [500] 0 (op_assign q0) .nil) fun _ a w h => ?_
      show Code.wp Tryz.prog _ _ a w
      refine reg mixed hn hG h [0, 1, 2, 500] (ov [3] (op_bin bin_add q0 qi) <| od [500] 3 (op_move q0) .nil) fun _ a w h => ?_
      obtain rfl := Option.some.inj hF
      exact ⟨rfl, h.sub [0, 1, 2, 3] (by rfl)⟩
    · refine wp_exit ?_
      obtain rfl := Option.some.inj hF
      exact ⟨exit_ne _, rfl, h.sub [0] (by rfl)⟩
  · clear hl18
    intro e a w hq
    cases cr17 with
    | ret r19 =>
      obtain ⟨rfl, hq⟩ := hq
      obtain rfl := Option.some.inj hF
      exact ⟨.inl rfl, hq⟩
    | next s20 =>
      obtain ⟨y21, y22⟩ := s20
      obtain ⟨rfl, h⟩ := hq
      change SatL c [.slot 5 (strVP y21)] a w at h
      refine inBlock_at ?_
      show Code.wp Tryz.prog _ _ a w
      refine regS mixed hn hG h [500] (ov [0] (op_move q0) <| ov [500] (op_assign q0) .nil) fun _ a w h => ?_
      refine wp_ret ?_
      obtain rfl := Option.some.inj hF
      exact ⟨.inl rfl, ret1 h Tryz.results39 (r_tmp 0 rfl) [] [] rfl rfl rfl⟩

def ref01_constants : Option (List Int) := some ([1116352408, 1899447441, 3049323471, 3921009573, 961987163, 1508970993, 2453635748, 2870763221, 3624381080, 310598401, 607225278, 1426881987, 1925078388, 2162078206, 2614888103, 3248222580, 3835390401, 4022224774, 264347078, 604807628, 770255983, 1249150122, 1555081692, 1996064986, 2554220882, 2821834349, 2952996808, 3210313671, 3336571891, 3584528711, 113926993, 338241895, 666307205, 773529912, 1294757372, 1396182291, 1695183700, 1986661051, 2177026350, 2456956037, 2730485921, 2820302411, 3259730800, 3345764771, 3516065817, 3600352804, 4094571909, 275423344, 430227734, 506948616, 659060556, 883997877, 958139571, 1322822218, 1537002063, 1747873779, 1955562222, 2024104815, 2227730452, 2361852424, 2428436474, 2756734187, 3204031479, 3329325298] ++ List.replicate (64 - 64) 0)
theorem ref01_constants_ok {r : (List Int)} (hF : ref01_constants = some r) : CallOk Tryz.prog KG 92 [] [] (fun _ => []) (aggVP [intsCk .u32 64 r]) := by
  refine CallOk.intro 2 Tryz.func92 rfl Tryz.ntmps92 (Nat.le_of_ble_eq_true rfl) ?_
  intro c a w hG hn h
  unfold ref01_constants at hF
  change SatL c [] a w at h
  refine regS mixed hn hG h [501, 500] (ob [] (op_alloc Tryz.zeroValue173 z173) .nil) fun b1 a w h => ?_
  refine regS mixed hn hG h [0, 500] (ov [] (op_buildI (xs := [.const (.int .u32 1116352408), .const (.int .u32 1899447441), .const (.int .u32 3049323471), .const (.int .u32 3921009573), .const (.int .u32 961987163), .const (.int .u32 1508970993), .const (.int .u32 2453635748), .const (.int .u32 2870763221), .const (.int .u32 3624381080), .const (.int .u32 310598401), .const (.int .u32 607225278), .const (.int .u32 1426881987), .const (.int .u32 1925078388), .const (.int .u32 2162078206), .const (.int .u32 2614888103), .const (.int .u32 3248222580), .const (.int .u32 3835390401), .const (.int .u32 4022224774), .const (.int .u32 264347078), .const (.int .u32 604807628), .const (.int .u32 770255983), .const (.int .u32 1249150122), .const (.int .u32 1555081692), .const (.int .u32 1996064986), .const (.int .u32 2554220882), .const (.int .u32 2821834349), .const (.int .u32 2952996808), .const (.int .u32 3210313671), .const (.int .u32 3336571891), .const (.int .u32 3584528711), .const (.int .u32 113926993), .const (.int .u32 338241895), .const (.int .u32 666307205), .const (.int .u32 773529912), .const (.int .u32 1294757372), .const (.int .u32 1396182291), .const (.int .u32 1695183700), .const (.int .u32 1986661051), .const (.int .u32 2177026350), .const (.int .u32 2456956037), .const (.int .u32 2730485921), .const (.int .u32 2820302411), .const (.int .u32 3259730800), .const (.int .u32 3345764771), .const (.int .u32 3516065817), .const (.int .u32 3600352804), .const (.int .u32 4094571909), .const (.int .u32 275423344), .const (.int .u32 430227734), .const (.int .u32 506948616), .const (.int .u32 659060556), .const (.int .u32 883997877), .const (.int .u32 958139571), .const (.int .u32 1322822218), .const (.int .u32 1537002063), .const (.int .u32 1747873779), .const (.int .u32 1955562222), .const (.int .u32 2024104815), .const (.int .u32 2227730452), .const (.int .u32 2361852424), .const (.int .u32 2428436474), .const (.int .u32 2756734187), .const (.int .u32 3204031479), .const (.int .u32 3329325298)]) (ys := [1116352408, 1899447441, 3049323471, 3921009573, 961987163, 1508970993, 2453635748, 2870763221, 3624381080, 310598401, 607225278, 1426881987, 1925078388, 2162078206, 2614888103, 3248222580, 3835390401, 4022224774, 264347078, 604807628, 770255983, 1249150122, 1555081692, 1996064986, 2554220882, 2821834349, 2952996808, 3210313671, 3336571891, 3584528711, 113926993, 338241895, 666307205, 773529912, 1294757372, 1396182291, 1695183700, 1986661051, 2177026350, 2456956037, 2730485921, 2820302411, 3259730800, 3345764771, 3516065817, 3600352804, 4094571909, 275423344, 430227734, 506948616, 659060556, 883997877, 958139571, 1322822218, 1537002063, 1747873779, 1955562222, 2024104815, 2227730452, 2361852424, 2428436474, 2756734187, 3204031479, 3329325298]) rfl bu173 ⟨⟨_, qi, (cells_one (one_int _ _))⟩, ⟨_, qi, (cells_one (one_int _ _))⟩, ⟨_, qi, (cells_one (one_int _ _))⟩, ⟨_, qi, (cells_one (one_int _ _))⟩, ⟨_, qi, (cells_one (one_int _ _))⟩, ⟨_, qi, (cells_one (one_int _ _))⟩, ⟨_, qi, (cells_one (one_int _ _))⟩, ⟨_, qi, (cells_one (one_int _ _))⟩, ⟨_, qi, (cells_one (one_int _ _))⟩, ⟨_, qi, (cells_one (one_int _ _))⟩, ⟨_, qi, (cells_one (one_int _ _))⟩, ⟨_, qi, (cells_one (one_int _ _))⟩, ⟨_, qi, (cells_one (one_int _ _))⟩, ⟨_, qi, (cells_one (one_int _ _))⟩, ⟨_, qi, (cells_one (one_int _ _))⟩, ⟨_, qi, (cells_one (one_int _ _))⟩, ⟨_, qi, (cells_one (one_int _ _))⟩, ⟨_, qi, (cells_one (one_int _ _))⟩, ⟨_, qi, (cells_one (one_int _ _))⟩, ⟨_, qi, (cells_one (one_int _ _))⟩, ⟨_, qi, (cells_one (one_int _ _))⟩, ⟨_, qi, (cells_one (one_int _ _))⟩, ⟨_, qi, (cells_one (one_int _ _))⟩, ⟨_, qi, (cells_one (one_int _ _))⟩, ⟨_, qi, (cells_one (one_int _ _))⟩, ⟨_, qi, (cells_one (one_int _ _))⟩, ⟨_, qi, (cells_one (one_int _ _))⟩, ⟨_, qi, (cells_one (one_int _ _))⟩, ⟨_, qi, (cells_one (one_int _ _))⟩, ⟨_, qi, (cells_one (one_int _ _))⟩, ⟨_, qi, (cells_one (one_int _ _))⟩, ⟨_, qi, (cells_one (one_int _ _))⟩, ⟨_, qi, (cells_one (one_int _ _))⟩, ⟨_, qi, (cells_one (one_int _ _))⟩, ⟨_, qi, (cells_one (one_int _ _))⟩, ⟨_, qi, (cells_one (one_int _ _))⟩, ⟨_, qi, (cells_one (one_int _ _))⟩, ⟨_, qi, (cells_one (one_int _ _))⟩, ⟨_, qi, (cells_one (one_int _ _))⟩, ⟨_, qi, (cells_one (one_int _ _))⟩, ⟨_, qi, (cells_one (one_int _ _))⟩, ⟨_, qi, (cells_one (one_int _ _))⟩, ⟨_, qi, (cells_one (one_int _ _))⟩, ⟨_, qi, (cells_one (one_int _ _))⟩, ⟨_, qi, (cells_one (one_int _ _))⟩, ⟨_, qi, (cells_one (one_int _ _))⟩, ⟨_, qi, (cells_one (one_int _ _))⟩, ⟨_, qi, (cells_one (one_int _ _))⟩, ⟨_, qi, (cells_one (one_int _ _))⟩, ⟨_, qi, (cells_one (one_int _ _))⟩, ⟨_, qi, (cells_one (one_int _ _))⟩, ⟨_, qi, (cells_one (one_int _ _))⟩, ⟨_, qi, (cells_one (one_int _ _))⟩, ⟨_, qi, (cells_one (one_int _ _))⟩, ⟨_, qi, (cells_one (one_int _ _))⟩, ⟨_, qi, (cells_one (one_int _ _))⟩, ⟨_, qi, (cells_one (one_int _ _))⟩, ⟨_, qi, (cells_one (one_int _ _))⟩, ⟨_, qi, (cells_one (one_int _ _))⟩, ⟨_, qi, (cells_one (one_int _ _))⟩, ⟨_, qi, (cells_one (one_int _ _))⟩, ⟨_, qi, (cells_one (one_int _ _))⟩, ⟨_, qi, (cells_one (one_int _ _))⟩, ⟨_, qi, (cells_one (one_int _ _))⟩, trivial⟩ (by decide) rfl) <| ou [0, 500] 1 (op_store_w Tryz.sizeOf173 q0 q1 (cells_agg _)) .nil) fun _ a w h => ?_
  refine wp_ret ?_
  obtain rfl := Option.some.inj hF
  exact ⟨.inl rfl, ret1 h Tryz.results92 (r_cell 0 1 rfl rfl Tryz.isAgg173 Tryz.sizeOf173 rfl) [] [] rfl rfl rfl⟩

def ref01_turn (a_0 : Int) (a_1 : Int) : Option Int := some (bits .or .u32 (shr .u32 a_0 a_1) (shl .u32 a_0 (IntKind.wrap .u64 (32 - a_1))))
theorem ref01_turn_ok {a_0 : Int} {a_1 : Int} {r : Int} (hF : ref01_turn a_0 a_1 = some r) : CallOk Tryz.prog KG 93 [(intVP .u32 a_0), (intVP .u64 a_1)] [] (fun _ => []) (intVP .u32 r) := by
  refine CallOk.intro 13 Tryz.func93 rfl Tryz.ntmps93 (Nat.le_of_ble_eq_true rfl) ?_
  intro c a w hG hn h
  unfold ref01_turn at hF
  change SatL c [.slot 0 (intVP .u32 a_0), .slot 1 (intVP .u64 a_1)] a w at h
  refine regS mixed hn hG h [0, 1] (ov [] (op_assign qi) .nil) fun _ a w h => ?_
  refine regS mixed hn hG h [500] (ov [0] (op_move q0) <| ov [1] (op_move q0) <| ov [501, 500] (op_bin (bin_shru rfl) q0 q1) <| ov [0] (op_move q0) <| ov [1] (op_move q0) <| ov [500] (op_bin bin_sub qi q0) <| ov [502, 500] (op_bin (bin_shlu rfl) q0 q1) <| ov [504, 500] (op_bin bin_or q0 q1) <| ov [500] (op_assign q0) .nil) fun _ a w h => ?_
  refine wp_ret ?_
  obtain rfl := Option.some.inj hF
  exact ⟨.inl rfl, ret1 h Tryz.results93 (r_tmp 0 rfl) [] [] rfl rfl rfl⟩

def ref01_Block.b1 (a_1 : List (UInt8)) (x12 : Int) (x13 : List Int) : Option (Flow (List Int) (Int × (List Int))) := (if (decide (x12 < (16 : Int))) = true then (if (0 : Int) ≤ IntKind.wrap .i64 (4 * x12) ∧ IntKind.wrap .i64 (4 * x12) < a_1.length then (if (0 : Int) ≤ IntKind.wrap .i64 ((IntKind.wrap .i64 (4 * x12)) + 1) ∧ IntKind.wrap .i64 ((IntKind.wrap .i64 (4 * x12)) + 1) < a_1.length then (if (0 : Int) ≤ IntKind.wrap .i64 ((IntKind.wrap .i64 (4 * x12)) + 2) ∧ IntKind.wrap .i64 ((IntKind.wrap .i64 (4 * x12)) + 2) < a_1.length then (if (0 : Int) ≤ IntKind.wrap .i64 ((IntKind.wrap .i64 (4 * x12)) + 3) ∧ IntKind.wrap .i64 ((IntKind.wrap .i64 (4 * x12)) + 3) < a_1.length then (if (0 : Int) ≤ x12 ∧ x12 < 64 then some (.cont (IntKind.wrap .i64 (x12 + 1), x13.set x12.toNat (IntKind.wrap .u32 ((IntKind.wrap .u32 ((IntKind.wrap .u32 ((IntKind.wrap .u32 ((IntKind.wrap .u32 ((a_1.getD (IntKind.wrap .i64 (4 * x12)).toNat default).toNat)) * 16777216)) + (IntKind.wrap .u32 ((IntKind.wrap .u32 ((a_1.getD (IntKind.wrap .i64 ((IntKind.wrap .i64 (4 * x12)) + 1)).toNat default).toNat)) * 65536)))) + (IntKind.wrap .u32 ((IntKind.wrap .u32 ((a_1.getD (IntKind.wrap .i64 ((IntKind.wrap .i64 (4 * x12)) + 2)).toNat default).toNat)) * 256)))) + (IntKind.wrap .u32 ((a_1.getD (IntKind.wrap .i64 ((IntKind.wrap .i64 (4 * x12)) + 3)).toNat default).toNat)))))) else none) else none) else none) else none) else none) else some (.brk (x12, x13)))
def ref01_Block.b2 (x43 : Int) (x44 : List Int) : Option (Flow (List Int) (Int × (List Int))) := (if (decide (x43 < (64 : Int))) = true then (if (0 : Int) ≤ IntKind.wrap .i64 (x43 - 15) ∧ IntKind.wrap .i64 (x43 - 15) < 64 then ((ref01_turn (x44.getD (IntKind.wrap .i64 (x43 - 15)).toNat 0) 7).bind fun r59 => ((ref01_turn (x44.getD (IntKind.wrap .i64 (x43 - 15)).toNat 0) 18).bind fun r60 => (if (0 : Int) ≤ IntKind.wrap .i64 (x43 - 2) ∧ IntKind.wrap .i64 (x43 - 2) < 64 then ((ref01_turn (x44.getD (IntKind.wrap .i64 (x43 - 2)).toNat 0) 17).bind fun r62 => ((ref01_turn (x44.getD (IntKind.wrap .i64 (x43 - 2)).toNat 0) 19).bind fun r63 => (if (0 : Int) ≤ IntKind.wrap .i64 (x43 - 16) ∧ IntKind.wrap .i64 (x43 - 16) < 64 then (if (0 : Int) ≤ IntKind.wrap .i64 (x43 - 7) ∧ IntKind.wrap .i64 (x43 - 7) < 64 then (if (0 : Int) ≤ x43 ∧ x43 < 64 then some (.cont (IntKind.wrap .i64 (x43 + 1), x44.set x43.toNat (IntKind.wrap .u32 ((IntKind.wrap .u32 ((IntKind.wrap .u32 ((x44.getD (IntKind.wrap .i64 (x43 - 16)).toNat 0) + (bits .xor .u32 (bits .xor .u32 r59 r60) (shr .u32 (x44.getD (IntKind.wrap .i64 (x43 - 15)).toNat 0) 3)))) + (x44.getD (IntKind.wrap .i64 (x43 - 7)).toNat 0))) + (bits .xor .u32 (bits .xor .u32 r62 r63) (shr .u32 (x44.getD (IntKind.wrap .i64 (x43 - 2)).toNat 0) 10)))))) else none) else none) else none))) else none))) else none) else some (.brk (x43, x44)))
def ref01_Block.b3 (r4 : (List Int)) (y72 : List Int) (x80 : Int) (x81 : Int) (x82 : Int) (x83 : Int) (x84 : Int) (x85 : Int) (x86 : Int) (x87 : Int) (x88 : Int) : Option (Flow (List Int) (Int × Int × Int × Int × Int × Int × Int × Int × Int)) := (if (decide (x88 < (64 : Int))) = true then ((ref01_turn x84 6).bind fun r107 => ((ref01_turn x84 11).bind fun r108 => ((ref01_turn x84 25).bind fun r109 => (if (0 : Int) ≤ x88 ∧ x88 < 64 then ((ref01_turn x80 2).bind fun r111 => ((ref01_turn x80 13).bind fun r112 => ((ref01_turn x80 22).bind fun r113 => some (.cont (IntKind.wrap .u32 ((IntKind.wrap .u32 ((IntKind.wrap .u32 ((IntKind.wrap .u32 ((IntKind.wrap .u32 (x87 + (bits .xor .u32 (bits .xor .u32 r107 r108) r109))) + (bits .xor .u32 (bits .and .u32 x84 x85) (bits .and .u32 (bits .xor .u32 4294967295 x84) x86)))) + (r4.getD x88.toNat 0))) + (y72.getD x88.toNat 0))) + (IntKind.wrap .u32 ((bits .xor .u32 (bits .xor .u32 r111 r112) r113) + (bits .xor .u32 (bits .xor .u32 (bits .and .u32 x80 x81) (bits .and .u32 x80 x82)) (bits .and .u32 x81 x82))))), x80, x81, x82, IntKind.wrap .u32 (x83 + (IntKind.wrap .u32 ((IntKind.wrap .u32 ((IntKind.wrap .u32 ((IntKind.wrap .u32 (x87 + (bits .xor .u32 (bits .xor .u32 r107 r108) r109))) + (bits .xor .u32 (bits .and .u32 x84 x85) (bits .and .u32 (bits .xor .u32 4294967295 x84) x86)))) + (r4.getD x88.toNat 0))) + (y72.getD x88.toNat 0)))), x84, x85, x86, IntKind.wrap .i64 (x88 + 1)))))) else none)))) else some (.brk (x80, x81, x82, x83, x84, x85, x86, x87, x88)))
def ref01_Block (a_0 : List Int) (a_1 : List (UInt8)) : Option (List Int) := (if (!decide ((a_1.length : Int) = (64 : Int))) = true then some a_0 else ((ref01_constants).bind fun r4 => ((loopN (fun s : Int × (List Int) => ref01_Block.b1 a_1 s.1 s.2) ((16 - 0 : Int).toNat + 2) (0, (List.replicate 64 0))).bind fun cr => match cr with | .ret r => some r | .next (y32, y33) => ((loopN (fun s : Int × (List Int) => ref01_Block.b2 s.1 s.2) ((64 - 16 : Int).toNat + 2) (16, y33)).bind fun cr => match cr with | .ret r => some r | .next (y71, y72) => ((loopN (fun s : Int × Int × Int × Int × Int × Int × Int × Int × Int => ref01_Block.b3 r4 y72 s.1 s.2.1 s.2.2.1 s.2.2.2.1 s.2.2.2.2.1 s.2.2.2.2.2.1 s.2.2.2.2.2.2.1 s.2.2.2.2.2.2.2.1 s.2.2.2.2.2.2.2.2) ((64 - 0 : Int).toNat + 2) (a_0.getD (0 : Int).toNat 0, a_0.getD (1 : Int).toNat 0, a_0.getD (2 : Int).toNat 0, a_0.getD (3 : Int).toNat 0, a_0.getD (4 : Int).toNat 0, a_0.getD (5 : Int).toNat 0, a_0.getD (6 : Int).toNat 0, a_0.getD (7 : Int).toNat 0, 0)).bind fun cr => match cr with | .ret r => some r | .next (y118, y119, y120, y121, y122, y123, y124, y125, y126) => some ([IntKind.wrap .u32 ((a_0.getD (0 : Int).toNat 0) + y118), IntKind.wrap .u32 ((a_0.getD (1 : Int).toNat 0) + y119), IntKind.wrap .u32 ((a_0.getD (2 : Int).toNat 0) + y120), IntKind.wrap .u32 ((a_0.getD (3 : Int).toNat 0) + y121), IntKind.wrap .u32 ((a_0.getD (4 : Int).toNat 0) + y122), IntKind.wrap .u32 ((a_0.getD (5 : Int).toNat 0) + y123), IntKind.wrap .u32 ((a_0.getD (6 : Int).toNat 0) + y124), IntKind.wrap .u32 ((a_0.getD (7 : Int).toNat 0) + y125)] ++ List.replicate (8 - 8) 0))))))
theorem ref01_Block_ok {a_0 : List Int} {a_1 : List (UInt8)} {r : (List Int)} (hF : ref01_Block a_0 a_1 = some r) : CallOk Tryz.prog KG 79 [(aggVP [intsCk .u32 8 a_0]), (slVP bC a_1)] [] (fun _ => []) (aggVP [intsCk .u32 8 r]) := by
  refine CallOk.intro 231 Tryz.func79 rfl Tryz.ntmps79 (Nat.le_of_ble_eq_true rfl) ?_
  intro c a w hG hn h
  unfold ref01_Block at hF
  change SatL c [.slot 0 (aggVP [intsCk .u32 8 a_0]), .slot 1 (slVP bC a_1)] a w at h
  refine regS mixed hn hG h [1, 503, 501, 502, 500] (ob [0] (op_box q0 (cells_agg _)) <| ob [] (op_alloc Tryz.zeroValue127 z127) .nil) fun b1 a w h => ?_
  refine wp_seq ?_
  refine regS mixed hn hG h [0, 1, 2, 500, 3, 4] (ov [0] (op_move q0) <| ov [500] (op_len_sl Tryz.underlying119 q0) <| ov [500] (op_bin bin_neq q0 qi) .nil) fun _ a w h => ?_
  refine cnd h hF 3 [1, 2, 4, 5] [0, 1, 2, 4, 5] (fun hb3 hF h => ?_) (fun hb3 hF h => ?_)
  · refine regS mixed hn hG h [1, 500] (ov [0, 2] (op_load_w 1 Tryz.isAgg127 Tryz.sizeOf127 q0) <| ou [1, 500] 3 (op_store_w Tryz.sizeOf127 q0 q1 (cells_agg _)) .nil) fun _ a w h => ?_
    refine wp_ret ?_
    obtain rfl := Option.some.inj hF
    exact ⟨.inl rfl, ret1 h Tryz.results79 (r_cell 0 1 rfl rfl Tryz.isAgg127 Tryz.sizeOf127 rfl) [] [] rfl rfl rfl⟩
  · refine wp_skip ?_
    show Code.wp Tryz.prog _ _ a w
    obtain ⟨r4, hr4, hF⟩ := bind_some hF
    refine regS mixed hn hG h [0, 1, 2, 502, 3, 4, 500] (oc [] [] Tryz.call92 (ref01_constants_ok hr4) trivial <| ob [] (op_alloc Tryz.zeroValue173 z173) <| og [501, 502] [500] [.res 1 100000 (fun v1_ _ => (lb (v1_) 173 [intsCk .u32 64 r4]))] (GOk.plain (op_store_w Tryz.sizeOf173 q0 q1 (cells_agg _)) rfl) .nil) fun b5 a w h => ?_
    refine regS mixed hn hG h [0, 1, 2, 3, 501, 4, 5, 6, 500] (ob [] (op_alloc Tryz.zeroValue173 z173) .nil) fun b6 a w h => ?_
    refine wp_seq ?_
    refine regS mixed hn hG h [0, 1, 2, 3, 4, 500, 5, 6, 7, 8] (ov [] (op_assign qi) .nil) fun _ a w h => ?_
    refine wp_block ?_
    obtain ⟨cr28, hl29, hF⟩ := bind_some hF
    refine wp_mono (wp_loopN (R := (List Int)) (S := Int × (List Int)) (fun s a w => SatL c [.slot 1 (slVP bC a_1), .slot 2 (lpVP (b1 0) 0), .slot 4 (lpVP (b1 1) 0), .slot 5 (lpVP (b5 1) 0), .slot 6 (lpVP (b6 0) 0), .slot 7 (intVP .i64 s.1), .res (lb (b1 0) 127 [intsCk .u32 8 a_0]), .res (lb (b1 1) 127 [intsCk .u32 8 (List.replicate 8 0)]), .res (lb (b5 1) 173 [intsCk .u32 64 r4]), .res (lb (b6 0) 173 [intsCk .u32 64 s.2])] a w) (fun res e a w => match res with | .next s => e = .exit 0 ∧ SatL c [.slot 2 (lpVP (b1 0) 0), .slot 4 (lpVP (b1 1) 0), .slot 5 (lpVP (b5 1) 0), .slot 6 (lpVP (b6 0) 0), .res (lb (b1 0) 127 [intsCk .u32 8 a_0]), .res (lb (b1 1) 127 [intsCk .u32 8 (List.replicate 8 0)]), .res (lb (b5 1) 173 [intsCk .u32 64 r4]), .res (lb (b6 0) 173 [intsCk .u32 64 s.2])] a w | .ret r => e = .ret ∧ RetOk Tryz.prog Tryz.f79 c (aggVP [intsCk .u32 8 r]) (fun _ => []) a w) ?_ _ (0, (List.replicate 64 0)) _ _ _ (h.sub [0, 1, 2, 3, 4, 5, 6, 7, 8, 9] (by rfl)) hl29) ?_
    · clear hl29 hF h
      intro s a w o h hF
      obtain ⟨x12, x13⟩ := s
      change ref01_Block.b1 a_1 x12 x13 = some o at hF
      unfold ref01_Block.b1 at hF
      change SatL c [.slot 1 (slVP bC a_1), .slot 2 (lpVP (b1 0) 0), .slot 4 (lpVP (b1 1) 0), .slot 5 (lpVP (b5 1) 0), .slot 6 (lpVP (b6 0) 0), .slot 7 (intVP .i64 x12), .res (lb (b1 0) 127 [intsCk .u32 8 a_0]), .res (lb (b1 1) 127 [intsCk .u32 8 (List.replicate 8 0)]), .res (lb (b5 1) 173 [intsCk .u32 64 r4]), .res (lb (b6 0) 173 [intsCk .u32 64 x13])] a w at h
      refine wp_seq ?_
      refine regS mixed hn hG h [0, 1, 2, 3, 4, 5, 500, 6, 7, 8, 9] (ov [5] (op_move q0) <| ov [500] (op_bin bin_lss q0 qi) .nil) fun _ a w h => ?_
      refine cnd h hF 6 [0, 1, 2, 3, 4, 5, 7, 8, 9, 10] [0, 1, 2, 3, 4, 5, 7, 8, 9, 10] (fun hb22 hF h => ?_) (fun hb22 hF h => ?_)
      · refine wp_skip ?_
        show Code.wp Tryz.prog _ _ a w
        refine wp_seq ?_
        refine wp_block ?_
        obtain ⟨hv23, hF⟩ := ite_some hF
        obtain ⟨hv24, hF⟩ := ite_some hF
        obtain ⟨hv25, hF⟩ := ite_some hF
        obtain ⟨hv26, hF⟩ := ite_some hF
        obtain ⟨hv27, hF⟩ := ite_some hF
        refine reg mixed hn hG h [0, 1, 2, 3, 4, 5, 6, 7, 8, 500] (ov [5] (op_move q0) <| ov [0] (op_move q0) <| ov [5] (op_move q0) <| ov [500] (op_bin bin_mul qi q0) <| ov [502, 500] (op_indexAddr_sl Tryz.underlying119 Tryz.sizeOf5 lens_bC q0 q1 hv23) <| ov [500] (op_load_pp1 [] Tryz.isAgg5 q0) <| ov [500] (op_convert_int Tryz.underlying5 Tryz.underlying31 q0) <| ov [500] (op_bin bin_mul q0 qi) <| ov [0] (op_move q0) <| ov [5] (op_move q0) <| ov [500] (op_bin bin_mul qi q0) <| ov [500] (op_bin bin_add q0 qi) <| ov [503, 500] (op_indexAddr_sl Tryz.underlying119 Tryz.sizeOf5 lens_bC q0 q1 hv24) <| ov [500] (op_load_pp1 [] Tryz.isAgg5 q0) <| ov [500] (op_convert_int Tryz.underlying5 Tryz.underlying31 q0) <| ov [500] (op_bin bin_mul q0 qi) <| ov [508, 500] (op_bin bin_add q0 q1) <| ov [0] (op_move q0) <| ov [5] (op_move q0) <| ov [500] (op_bin bin_mul qi q0) <| ov [500] (op_bin bin_add q0 qi) <| ov [503, 500] (op_indexAddr_sl Tryz.underlying119 Tryz.sizeOf5 lens_bC q0 q1 hv25) <| ov [500] (op_load_pp1 [] Tryz.isAgg5 q0) <| ov [500] (op_convert_int Tryz.underlying5 Tryz.underlying31 q0) <| ov [500] (op_bin bin_mul q0 qi) <| ov [508, 500] (op_bin bin_add q0 q1) <| ov [0] (op_move q0) <| ov [5] (op_move q0) <| ov [500] (op_bin bin_mul qi q0) <| ov [500] (op_bin bin_add q0 qi) <| ov [503, 500] (op_indexAddr_sl Tryz.underlying119 Tryz.sizeOf5 lens_bC q0 q1 hv26) <| ov [500] (op_load_pp1 [] Tryz.isAgg5 q0) <| ov [500] (op_convert_int Tryz.underlying5 Tryz.underlying31 q0) <| ov [507, 500] (op_bin bin_add q0 q1) <| ov [4, 533] (op_indexAddr_lb Tryz.underlying173 Tryz.sizeOf31 q0 q1 hv27) <| ou [500, 501] 9 (op_store_lbI (i := x12) [] [] Tryz.sizeOf31 q0 q1 rfl hv27) .nil) fun _ a w h => ?_
        show Code.wp Tryz.prog _ _ a w
        refine reg mixed hn hG h [0, 1, 2, 3, 4, 500, 6, 7, 8, 9] (ov [5] (op_move q0) <| ov [500] (op_bin bin_add q0 qi) <| od [500] 5 (op_assign q0) .nil) fun _ a w h => ?_
        obtain rfl := Option.some.inj hF
        exact ⟨rfl, h.sub [0, 1, 2, 3, 4, 5, 6, 7, 8, 9] (by rfl)⟩
      · refine wp_exit ?_
        obtain rfl := Option.some.inj hF
        exact ⟨exit_ne _, rfl, h.sub [1, 2, 3, 4, 6, 7, 8, 9] (by rfl)⟩
    · clear hl29
      intro e a w hq
      cases cr28 with
      | ret r30 =>
        obtain ⟨rfl, hq⟩ := hq
        obtain rfl := Option.some.inj hF
        exact ⟨.inl rfl, hq⟩
      | next s31 =>
        obtain ⟨y32, y33⟩ := s31
        obtain ⟨rfl, h⟩ := hq
        change SatL c [.slot 2 (lpVP (b1 0) 0), .slot 4 (lpVP (b1 1) 0), .slot 5 (lpVP (b5 1) 0), .slot 6 (lpVP (b6 0) 0), .res (lb (b1 0) 127 [intsCk .u32 8 a_0]), .res (lb (b1 1) 127 [intsCk .u32 8 (List.replicate 8 0)]), .res (lb (b5 1) 173 [intsCk .u32 64 r4]), .res (lb (b6 0) 173 [intsCk .u32 64 y33])] a w at h
        refine inBlock_at ?_
        show Code.wp Tryz.prog _ _ a w
        refine wp_seq ?_
        refine regS mixed hn hG h [0, 1, 2, 3, 500, 4, 5, 6, 7] (ov [] (op_assign qi) .nil) fun _ a w h => ?_
        refine wp_block ?_
        obtain ⟨cr67, hl68, hF⟩ := bind_some hF
        refine wp_mono (wp_loopN (R := (List Int)) (S := Int × (List Int)) (fun s a w => SatL c [.slot 2 (lpVP (b1 0) 0), .slot 4 (lpVP (b1 1) 0), .slot 5 (lpVP (b5 1) 0), .slot 6 (lpVP (b6 0) 0), .slot 8 (intVP .i64 s.1), .res (lb (b1 0) 127 [intsCk .u32 8 a_0]), .res (lb (b1 1) 127 [intsCk .u32 8 (List.replicate 8 0)]), .res (lb (b5 1) 173 [intsCk .u32 64 r4]), .res (lb (b6 0) 173 [intsCk .u32 64 s.2])] a w) (fun res e a w => match res with | .next s => e = .exit 2 ∧ SatL c [.slot 2 (lpVP (b1 0) 0), .slot 4 (lpVP (b1 1) 0), .slot 5 (lpVP (b5 1) 0), .slot 6 (lpVP (b6 0) 0), .res (lb (b1 0) 127 [intsCk .u32 8 a_0]), .res (lb (b1 1) 127 [intsCk .u32 8 (List.replicate 8 0)]), .res (lb (b5 1) 173 [intsCk .u32 64 r4]), .res (lb (b6 0) 173 [intsCk .u32 64 s.2])] a w | .ret r => e = .ret ∧ RetOk Tryz.prog Tryz.f79 c (aggVP [intsCk .u32 8 r]) (fun _ => []) a w) ?_ _ (16, y33) _ _ _ (h.sub [0, 1, 2, 3, 4, 5, 6, 7, 8] (by rfl)) hl68) ?_
        · clear hl68 hF h
          intro s a w o h hF
          obtain ⟨x43, x44⟩ := s
          change ref01_Block.b2 x43 x44 = some o at hF
          unfold ref01_Block.b2 at hF
          change SatL c [.slot 2 (lpVP (b1 0) 0), .slot 4 (lpVP (b1 1) 0), .slot 5 (lpVP (b5 1) 0), .slot 6 (lpVP (b6 0) 0), .slot 8 (intVP .i64 x43), .res (lb (b1 0) 127 [intsCk .u32 8 a_0]), .res (lb (b1 1) 127 [intsCk .u32 8 (List.replicate 8 0)]), .res (lb (b5 1) 173 [intsCk .u32 64 r4]), .res (lb (b6 0) 173 [intsCk .u32 64 x44])] a w at h
          refine wp_seq ?_
          refine regS mixed hn hG h [0, 1, 2, 3, 4, 500, 5, 6, 7, 8] (ov [4] (op_move q0) <| ov [500] (op_bin bin_lss q0 qi) .nil) fun _ a w h => ?_
          refine cnd h hF 5 [0, 1, 2, 3, 4, 6, 7, 8, 9] [0, 1, 2, 3, 4, 6, 7, 8, 9] (fun hb57 hF h => ?_) (fun hb57 hF h => ?_)
          · refine wp_skip ?_
            show Code.wp Tryz.prog _ _ a w
            refine wp_seq ?_
            refine wp_block ?_
            obtain ⟨hv58, hF⟩ := ite_some hF
            obtain ⟨r59, hr59, hF⟩ := bind_some hF
            obtain ⟨r60, hr60, hF⟩ := bind_some hF
            refine regS mixed hn hG h [0, 1, 2, 3, 4, 500, 5, 6, 7, 8] (ov [4] (op_move q0) <| ov [500] (op_bin bin_sub q0 qi) <| ov [3, 500] (op_indexAddr_lb Tryz.underlying173 Tryz.sizeOf31 q0 q1 hv58) <| ov [500, 8] (op_load_lbI (i := IntKind.wrap .i64 (x43 - 15)) [] [] 1 Tryz.isAgg31 q0 rfl rfl hv58) <| oc [500] [] Tryz.call93 (ref01_turn_ok hr59) ⟨q0, qi, trivial⟩ <| ov [4] (op_move q0) <| ov [500] (op_bin bin_sub q0 qi) <| ov [3, 500] (op_indexAddr_lb Tryz.underlying173 Tryz.sizeOf31 q0 q1 hv58) <| ov [500, 8] (op_load_lbI (i := IntKind.wrap .i64 (x43 - 15)) [] [] 1 Tryz.isAgg31 q0 rfl rfl hv58) <| oc [500] [] Tryz.call93 (ref01_turn_ok hr60) ⟨q0, qi, trivial⟩ <| ov [505, 500] (op_bin bin_xor q0 q1) <| ov [4] (op_move q0) <| ov [500] (op_bin bin_sub q0 qi) <| ov [3, 500] (op_indexAddr_lb Tryz.underlying173 Tryz.sizeOf31 q0 q1 hv58) <| ov [500, 8] (op_load_lbI (i := IntKind.wrap .i64 (x43 - 15)) [] [] 1 Tryz.isAgg31 q0 rfl rfl hv58) <| ov [500] (op_bin (bin_shru rfl) q0 qi) <| ov [505, 500] (op_bin bin_xor q0 q1) <| ov [500] (op_assign q0) .nil) fun _ a w h => ?_
            obtain ⟨hv61, hF⟩ := ite_some hF
            obtain ⟨r62, hr62, hF⟩ := bind_some hF
            obtain ⟨r63, hr63, hF⟩ := bind_some hF
            refine regS mixed hn hG h [0, 1, 2, 3, 4, 5, 500, 6, 7, 8, 9] (ov [4] (op_move q0) <| ov [500] (op_bin bin_sub q0 qi) <| ov [3, 500] (op_indexAddr_lb Tryz.underlying173 Tryz.sizeOf31 q0 q1 hv61) <| ov [500, 9] (op_load_lbI (i := IntKind.wrap .i64 (x43 - 2)) [] [] 1 Tryz.isAgg31 q0 rfl rfl hv61) <| oc [500] [] Tryz.call93 (ref01_turn_ok hr62) ⟨q0, qi, trivial⟩ <| ov [4] (op_move q0) <| ov [500] (op_bin bin_sub q0 qi) <| ov [3, 500] (op_indexAddr_lb Tryz.underlying173 Tryz.sizeOf31 q0 q1 hv61) <| ov [500, 9] (op_load_lbI (i := IntKind.wrap .i64 (x43 - 2)) [] [] 1 Tryz.isAgg31 q0 rfl rfl hv61) <| oc [500] [] Tryz.call93 (ref01_turn_ok hr63) ⟨q0, qi, trivial⟩ <| ov [505, 500] (op_bin bin_xor q0 q1) <| ov [4] (op_move q0) <| ov [500] (op_bin bin_sub q0 qi) <| ov [3, 500] (op_indexAddr_lb Tryz.underlying173 Tryz.sizeOf31 q0 q1 hv61) <| ov [500, 9] (op_load_lbI (i := IntKind.wrap .i64 (x43 - 2)) [] [] 1 Tryz.isAgg31 q0 rfl rfl hv61) <| ov [500] (op_bin (bin_shru rfl) q0 qi) <| ov [505, 500] (op_bin bin_xor q0 q1) <| ov [500] (op_assign q0) .nil) fun _ a w h => ?_
            obtain ⟨hv64, hF⟩ := ite_some hF
            obtain ⟨hv65, hF⟩ := ite_some hF
            obtain ⟨hv66, hF⟩ := ite_some hF
            refine reg mixed hn hG h [0, 1, 2, 3, 4, 7, 8, 9, 500] (ov [4] (op_move q0) <| ov [4] (op_move q0) <| ov [500] (op_bin bin_sub q0 qi) <| ov [3, 500] (op_indexAddr_lb Tryz.underlying173 Tryz.sizeOf31 q0 q1 hv64) <| ov [500, 10] (op_load_lbI (i := IntKind.wrap .i64 (x43 - 16)) [] [] 1 Tryz.isAgg31 q0 rfl rfl hv64) <| ov [5] (op_move q0) <| ov [501, 500] (op_bin bin_add q0 q1) <| ov [4] (op_move q0) <| ov [500] (op_bin bin_sub q0 qi) <| ov [3, 500] (op_indexAddr_lb Tryz.underlying173 Tryz.sizeOf31 q0 q1 hv65) <| ov [500, 10] (op_load_lbI (i := IntKind.wrap .i64 (x43 - 7)) [] [] 1 Tryz.isAgg31 q0 rfl rfl hv65) <| ov [504, 500] (op_bin bin_add q0 q1) <| ov [6] (op_move q0) <| ov [501, 500] (op_bin bin_add q0 q1) <| ov [3, 513] (op_indexAddr_lb Tryz.underlying173 Tryz.sizeOf31 q0 q1 hv66) <| ou [500, 501] 10 (op_store_lbI (i := x43) [] [] Tryz.sizeOf31 q0 q1 rfl hv66) .nil) fun _ a w h => ?_
            show Code.wp Tryz.prog _ _ a w
            refine reg mixed hn hG h [0, 1, 2, 3, 500, 5, 6, 7, 8] (ov [4] (op_move q0) <| ov [500] (op_bin bin_add q0 qi) <| od [500] 4 (op_assign q0) .nil) fun _ a w h => ?_
            obtain rfl := Option.some.inj hF
            exact ⟨rfl, h.sub [0, 1, 2, 3, 4, 5, 6, 7, 8] (by rfl)⟩
          · refine wp_exit ?_
            obtain rfl := Option.some.inj hF
            exact ⟨exit_ne _, rfl, h.sub [0, 1, 2, 3, 5, 6, 7, 8] (by rfl)⟩
        · clear hl68
          intro e a w hq
          cases cr67 with
          | ret r69 =>
            obtain ⟨rfl, hq⟩ := hq
            obtain rfl := Option.some.inj hF
            exact ⟨.inl rfl, hq⟩
          | next s70 =>
            obtain ⟨y71, y72⟩ := s70
            obtain ⟨rfl, h⟩ := hq
            change SatL c [.slot 2 (lpVP (b1 0) 0), .slot 4 (lpVP (b1 1) 0), .slot 5 (lpVP (b5 1) 0), .slot 6 (lpVP (b6 0) 0), .res (lb (b1 0) 127 [intsCk .u32 8 a_0]), .res (lb (b1 1) 127 [intsCk .u32 8 (List.replicate 8 0)]), .res (lb (b5 1) 173 [intsCk .u32 64 r4]), .res (lb (b6 0) 173 [intsCk .u32 64 y72])] a w at h
            refine inBlock_at ?_
            show Code.wp Tryz.prog _ _ a w
            refine regS mixed hn hG h [0, 1, 2, 3, 507, 506, 505, 504, 503, 502, 501, 500, 4, 5, 6, 7] (ov [0] (op_indexAddr_lb Tryz.underlying127 Tryz.sizeOf31 q0 qi (by decide)) <| ov [500, 4] (op_load_lbI (i := 0) [] [] 1 Tryz.isAgg31 q0 rfl rfl (by decide)) <| ov [0] (op_indexAddr_lb Tryz.underlying127 Tryz.sizeOf31 q0 qi (by decide)) <| ov [500, 4] (op_load_lbI (i := 1) [] [] 1 Tryz.isAgg31 q0 rfl rfl (by decide)) <| ov [0] (op_indexAddr_lb Tryz.underlying127 Tryz.sizeOf31 q0 qi (by decide)) <| ov [500, 4] (op_load_lbI (i := 2) [] [] 1 Tryz.isAgg31 q0 rfl rfl (by decide)) <| ov [0] (op_indexAddr_lb Tryz.underlying127 Tryz.sizeOf31 q0 qi (by decide)) <| ov [500, 4] (op_load_lbI (i := 3) [] [] 1 Tryz.isAgg31 q0 rfl rfl (by decide)) <| ov [0] (op_indexAddr_lb Tryz.underlying127 Tryz.sizeOf31 q0 qi (by decide)) <| ov [500, 4] (op_load_lbI (i := 4) [] [] 1 Tryz.isAgg31 q0 rfl rfl (by decide)) <| ov [0] (op_indexAddr_lb Tryz.underlying127 Tryz.sizeOf31 q0 qi (by decide)) <| ov [500, 4] (op_load_lbI (i := 5) [] [] 1 Tryz.isAgg31 q0 rfl rfl (by decide)) <| ov [0] (op_indexAddr_lb Tryz.underlying127 Tryz.sizeOf31 q0 qi (by decide)) <| ov [500, 4] (op_load_lbI (i := 6) [] [] 1 Tryz.isAgg31 q0 rfl rfl (by decide)) <| ov [0] (op_indexAddr_lb Tryz.underlying127 Tryz.sizeOf31 q0 qi (by decide)) <| ov [500, 4] (op_load_lbI (i := 7) [] [] 1 Tryz.isAgg31 q0 rfl rfl (by decide)) <| ov [514] (op_assign q0) <| ov [513] (op_assign q0) <| ov [512] (op_assign q0) <| ov [511] (op_assign q0) <| ov [510] (op_assign q0) <| ov [509] (op_assign q0) <| ov [508] (op_assign q0) <| ov [507] (op_assign q0) .nil) fun _ a w h => ?_
            refine wp_seq ?_
            refine regS mixed hn hG h [0, 1, 2, 3, 4, 5, 6, 7, 8, 9, 10, 11, 500, 12, 13, 14, 15] (ov [] (op_assign qi) .nil) fun _ a w h => ?_
            refine wp_block ?_
            obtain ⟨cr114, hl115, hF⟩ := bind_some hF
            refine wp_mono (wp_loopN (R := (List Int)) (S := Int × Int × Int × Int × Int × Int × Int × Int × Int) (fun s a w => SatL c [.slot 2 (lpVP (b1 0) 0), .slot 4 (lpVP (b1 1) 0), .slot 5 (lpVP (b5 1) 0), .slot 6 (lpVP (b6 0) 0), .slot 11 (intVP .u32 s.1), .slot 12 (intVP .u32 s.2.1), .slot 13 (intVP .u32 s.2.2.1), .slot 14 (intVP .u32 s.2.2.2.1), .slot 15 (intVP .u32 s.2.2.2.2.1), .slot 16 (intVP .u32 s.2.2.2.2.2.1), .slot 17 (intVP .u32 s.2.2.2.2.2.2.1), .slot 18 (intVP .u32 s.2.2.2.2.2.2.2.1), .slot 19 (intVP .i64 s.2.2.2.2.2.2.2.2), .res (lb (b1 0) 127 [intsCk .u32 8 a_0]), .res (lb (b1 1) 127 [intsCk .u32 8 (List.replicate 8 0)]), .res (lb (b5 1) 173 [intsCk .u32 64 r4]), .res (lb (b6 0) 173 [intsCk .u32 64 y72])] a w) (fun res e a w => match res with | .next s => e = .exit 4 ∧ SatL c [.slot 2 (lpVP (b1 0) 0), .slot 4 (lpVP (b1 1) 0), .slot 11 (intVP .u32 s.1), .slot 12 (intVP .u32 s.2.1), .slot 13 (intVP .u32 s.2.2.1), .slot 14 (intVP .u32 s.2.2.2.1), .slot 15 (intVP .u32 s.2.2.2.2.1), .slot 16 (intVP .u32 s.2.2.2.2.2.1), .slot 17 (intVP .u32 s.2.2.2.2.2.2.1), .slot 18 (intVP .u32 s.2.2.2.2.2.2.2.1), .res (lb (b1 0) 127 [intsCk .u32 8 a_0]), .res (lb (b1 1) 127 [intsCk .u32 8 (List.replicate 8 0)])] a w | .ret r => e = .ret ∧ RetOk Tryz.prog Tryz.f79 c (aggVP [intsCk .u32 8 r]) (fun _ => []) a w) ?_ _ (a_0.getD (0 : Int).toNat 0, a_0.getD (1 : Int).toNat 0, a_0.getD (2 : Int).toNat 0, a_0.getD (3 : Int).toNat 0, a_0.getD (4 : Int).toNat 0, a_0.getD (5 : Int).toNat 0, a_0.getD (6 : Int).toNat 0, a_0.getD (7 : Int).toNat 0, 0) _ _ _ (h.sub [0, 1, 2, 3, 4, 5, 6, 7, 8, 9, 10, 11, 12, 13, 14, 15, 16] (by rfl)) hl115) ?_
            · clear hl115 hF h
              intro s a w o h hF
              obtain ⟨x80, x81, x82, x83, x84, x85, x86, x87, x88⟩ := s
              change ref01_Block.b3 r4 y72 x80 x81 x82 x83 x84 x85 x86 x87 x88 = some o at hF
              unfold ref01_Block.b3 at hF
              change SatL c [.slot 2 (lpVP (b1 0) 0), .slot 4 (lpVP (b1 1) 0), .slot 5 (lpVP (b5 1) 0), .slot 6 (lpVP (b6 0) 0), .slot 11 (intVP .u32 x80), .slot 12 (intVP .u32 x81), .slot 13 (intVP .u32 x82), .slot 14 (intVP .u32 x83), .slot 15 (intVP .u32 x84), .slot 16 (intVP .u32 x85), .slot 17 (intVP .u32 x86), .slot 18 (intVP .u32 x87), .slot 19 (intVP .i64 x88), .res (lb (b1 0) 127 [intsCk .u32 8 a_0]), .res (lb (b1 1) 127 [intsCk .u32 8 (List.replicate 8 0)]), .res (lb (b5 1) 173 [intsCk .u32 64 r4]), .res (lb (b6 0) 173 [intsCk .u32 64 y72])] a w at h
              refine wp_seq ?_
              refine regS mixed hn hG h [0, 1, 2, 3, 4, 5, 6, 7, 8, 9, 10, 11, 12, 500, 13, 14, 15, 16] (ov [12] (op_move q0) <| ov [500] (op_bin bin_lss q0 qi) .nil) fun _ a w h => ?_
              refine cnd h hF 13 [0, 1, 2, 3, 4, 5, 6, 7, 8, 9, 10, 11, 12, 14, 15, 16, 17] [0, 1, 2, 3, 4, 5, 6, 7, 8, 9, 10, 11, 12, 14, 15, 16, 17] (fun hb106 hF h => ?_) (fun hb106 hF h => ?_)
              · refine wp_skip ?_
                show Code.wp Tryz.prog _ _ a w
                refine wp_seq ?_
                refine wp_block ?_
                obtain ⟨r107, hr107, hF⟩ := bind_some hF
                obtain ⟨r108, hr108, hF⟩ := bind_some hF
                obtain ⟨r109, hr109, hF⟩ := bind_some hF
                obtain ⟨hv110, hF⟩ := ite_some hF
                refine regS mixed hn hG h [0, 1, 2, 3, 4, 5, 6, 7, 8, 9, 10, 12, 500, 13, 14, 15, 16] (ov [11] (op_move q0) <| ov [8] (op_move q0) <| oc [500] [] Tryz.call93 (ref01_turn_ok hr107) ⟨q0, qi, trivial⟩ <| ov [8] (op_move q0) <| oc [500] [] Tryz.call93 (ref01_turn_ok hr108) ⟨q0, qi, trivial⟩ <| ov [502, 500] (op_bin bin_xor q0 q1) <| ov [8] (op_move q0) <| oc [500] [] Tryz.call93 (ref01_turn_ok hr109) ⟨q0, qi, trivial⟩ <| ov [502, 500] (op_bin bin_xor q0 q1) <| ov [508, 500] (op_bin bin_add q0 q1) <| ov [8] (op_move q0) <| ov [9] (op_move q0) <| ov [501, 500] (op_bin bin_and q0 q1) <| ov [8] (op_move q0) <| ov [500] (op_bin bin_xor qi q0) <| ov [10] (op_move q0) <| ov [501, 500] (op_bin bin_and q0 q1) <| ov [504, 500] (op_bin bin_xor q0 q1) <| ov [508, 500] (op_bin bin_add q0 q1) <| ov [12] (op_move q0) <| ov [2, 500] (op_indexAddr_lb Tryz.underlying173 Tryz.sizeOf31 q0 q1 hv110) <| ov [500, 15] (op_load_lbI (i := x88) [] [] 1 Tryz.isAgg31 q0 rfl rfl hv110) <| ov [503, 500] (op_bin bin_add q0 q1) <| ov [12] (op_move q0) <| ov [3, 500] (op_indexAddr_lb Tryz.underlying173 Tryz.sizeOf31 q0 q1 hv110) <| ov [500, 16] (op_load_lbI (i := x88) [] [] 1 Tryz.isAgg31 q0 rfl rfl hv110) <| ov [503, 500] (op_bin bin_add q0 q1) <| ov [500] (op_assign q0) .nil) fun _ a w h => ?_
                obtain ⟨r111, hr111, hF⟩ := bind_some hF
                obtain ⟨r112, hr112, hF⟩ := bind_some hF
                obtain ⟨r113, hr113, hF⟩ := bind_some hF
                refine regS mixed hn hG h [0, 1, 2, 3, 4, 5, 6, 7, 8, 9, 10, 11, 12, 500, 13, 14, 15, 16] (ov [4] (op_move q0) <| oc [500] [] Tryz.call93 (ref01_turn_ok hr111) ⟨q0, qi, trivial⟩ <| ov [4] (op_move q0) <| oc [500] [] Tryz.call93 (ref01_turn_ok hr112) ⟨q0, qi, trivial⟩ <| ov [502, 500] (op_bin bin_xor q0 q1) <| ov [4] (op_move q0) <| oc [500] [] Tryz.call93 (ref01_turn_ok hr113) ⟨q0, qi, trivial⟩ <| ov [502, 500] (op_bin bin_xor q0 q1) <| ov [4] (op_move q0) <| ov [5] (op_move q0) <| ov [501, 500] (op_bin bin_and q0 q1) <| ov [4] (op_move q0) <| ov [6] (op_move q0) <| ov [501, 500] (op_bin bin_and q0 q1) <| ov [503, 500] (op_bin bin_xor q0 q1) <| ov [5] (op_move q0) <| ov [6] (op_move q0) <| ov [501, 500] (op_bin bin_and q0 q1) <| ov [503, 500] (op_bin bin_xor q0 q1) <| ov [511, 500] (op_bin bin_add q0 q1) <| ov [500] (op_assign q0) .nil) fun _ a w h => ?_
                refine regS mixed hn hG h [0, 1, 2, 3, 4, 5, 6, 7, 8, 9, 500, 11, 12, 13, 14, 15, 16, 17] (ov [10] (op_move q0) <| ov [500] (op_assign q0) .nil) fun _ a w h => ?_
                refine regS mixed hn hG h [0, 1, 2, 3, 4, 5, 6, 7, 8, 500, 10, 11, 12, 13, 14, 15, 16, 17] (ov [9] (op_move q0) <| ov [500] (op_assign q0) .nil) fun _ a w h => ?_
                refine regS mixed hn hG h [0, 1, 2, 3, 4, 5, 6, 7, 500, 9, 10, 11, 12, 13, 14, 15, 16, 17] (ov [8] (op_move q0) <| ov [500] (op_assign q0) .nil) fun _ a w h => ?_
                refine regS mixed hn hG h [0, 1, 2, 3, 4, 5, 6, 500, 8, 9, 10, 11, 12, 13, 14, 15, 16, 17] (ov [7] (op_move q0) <| ov [12] (op_move q0) <| ov [501, 500] (op_bin bin_add q0 q1) <| ov [500] (op_assign q0) .nil) fun _ a w h => ?_
                refine regS mixed hn hG h [0, 1, 2, 3, 4, 5, 500, 7, 8, 9, 10, 11, 12, 13, 14, 15, 16, 17] (ov [6] (op_move q0) <| ov [500] (op_assign q0) .nil) fun _ a w h => ?_
                refine regS mixed hn hG h [0, 1, 2, 3, 4, 500, 6, 7, 8, 9, 10, 11, 12, 13, 14, 15, 16, 17] (ov [5] (op_move q0) <| ov [500] (op_assign q0) .nil) fun _ a w h => ?_
                refine regS mixed hn hG h [0, 1, 2, 3, 500, 5, 6, 7, 8, 9, 10, 11, 12, 13, 14, 15, 16, 17] (ov [4] (op_move q0) <| ov [500] (op_assign q0) .nil) fun _ a w h => ?_
                refine reg mixed hn hG h [0, 1, 2, 3, 500, 4, 5, 6, 7, 8, 9, 10, 11, 14, 15, 16, 17] (ov [12] (op_move q0) <| ov [13] (op_move q0) <| ov [501, 500] (op_bin bin_add q0 q1) <| ov [500] (op_assign q0) .nil) fun _ a w h => ?_
                show Code.wp Tryz.prog _ _ a w
                refine reg mixed hn hG h [0, 1, 2, 3, 4, 5, 6, 7, 8, 9, 10, 11, 500, 13, 14, 15, 16] (ov [12] (op_move q0) <| ov [500] (op_bin bin_add q0 qi) <| od [500] 12 (op_assign q0) .nil) fun _ a w h => ?_
                obtain rfl := Option.some.inj hF
                exact ⟨rfl, h.sub [0, 1, 2, 3, 4, 5, 6, 7, 8, 9, 10, 11, 12, 13, 14, 15, 16] (by rfl)⟩
              · refine wp_exit ?_
                obtain rfl := Option.some.inj hF
                exact ⟨exit_ne _, rfl, h.sub [0, 1, 4, 5, 6, 7, 8, 9, 10, 11, 13, 14] (by rfl)⟩
            · clear hl115
              intro e a w hq
              cases cr114 with
              | ret r116 =>
                obtain ⟨rfl, hq⟩ := hq
                obtain rfl := Option.some.inj hF
                exact ⟨.inl rfl, hq⟩
              | next s117 =>
                obtain ⟨y118, y119, y120, y121, y122, y123, y124, y125, y126⟩ := s117
                obtain ⟨rfl, h⟩ := hq
                change SatL c [.slot 2 (lpVP (b1 0) 0), .slot 4 (lpVP (b1 1) 0), .slot 11 (intVP .u32 y118), .slot 12 (intVP .u32 y119), .slot 13 (intVP .u32 y120), .slot 14 (intVP .u32 y121), .slot 15 (intVP .u32 y122), .slot 16 (intVP .u32 y123), .slot 17 (intVP .u32 y124), .slot 18 (intVP .u32 y125), .res (lb (b1 0) 127 [intsCk .u32 8 a_0]), .res (lb (b1 1) 127 [intsCk .u32 8 (List.replicate 8 0)])] a w at h
                refine inBlock_at ?_
                show Code.wp Tryz.prog _ _ a w
                refine regS mixed hn hG h [1, 500] (ov [0] (op_indexAddr_lb Tryz.underlying127 Tryz.sizeOf31 q0 qi (by decide)) <| ov [500, 10] (op_load_lbI (i := 0) [] [] 1 Tryz.isAgg31 q0 rfl rfl (by decide)) <| ov [2] (op_move q0) <| ov [501, 500] (op_bin bin_add q0 q1) <| ov [0] (op_indexAddr_lb Tryz.underlying127 Tryz.sizeOf31 q0 qi (by decide)) <| ov [500, 10] (op_load_lbI (i := 1) [] [] 1 Tryz.isAgg31 q0 rfl rfl (by decide)) <| ov [3] (op_move q0) <| ov [501, 500] (op_bin bin_add q0 q1) <| ov [0] (op_indexAddr_lb Tryz.underlying127 Tryz.sizeOf31 q0 qi (by decide)) <| ov [500, 10] (op_load_lbI (i := 2) [] [] 1 Tryz.isAgg31 q0 rfl rfl (by decide)) <| ov [4] (op_move q0) <| ov [501, 500] (op_bin bin_add q0 q1) <| ov [0] (op_indexAddr_lb Tryz.underlying127 Tryz.sizeOf31 q0 qi (by decide)) <| ov [500, 10] (op_load_lbI (i := 3) [] [] 1 Tryz.isAgg31 q0 rfl rfl (by decide)) <| ov [5] (op_move q0) <| ov [501, 500] (op_bin bin_add q0 q1) <| ov [0] (op_indexAddr_lb Tryz.underlying127 Tryz.sizeOf31 q0 qi (by decide)) <| ov [500, 10] (op_load_lbI (i := 4) [] [] 1 Tryz.isAgg31 q0 rfl rfl (by decide)) <| ov [6] (op_move q0) <| ov [501, 500] (op_bin bin_add q0 q1) <| ov [0] (op_indexAddr_lb Tryz.underlying127 Tryz.sizeOf31 q0 qi (by decide)) <| ov [500, 10] (op_load_lbI (i := 5) [] [] 1 Tryz.isAgg31 q0 rfl rfl (by decide)) <| ov [7] (op_move q0) <| ov [501, 500] (op_bin bin_add q0 q1) <| ov [0] (op_indexAddr_lb Tryz.underlying127 Tryz.sizeOf31 q0 qi (by decide)) <| ov [500, 10] (op_load_lbI (i := 6) [] [] 1 Tryz.isAgg31 q0 rfl rfl (by decide)) <| ov [8] (op_move q0) <| ov [501, 500] (op_bin bin_add q0 q1) <| ov [0] (op_indexAddr_lb Tryz.underlying127 Tryz.sizeOf31 q0 qi (by decide)) <| ov [500, 10] (op_load_lbI (i := 7) [] [] 1 Tryz.isAgg31 q0 rfl rfl (by decide)) <| ov [9] (op_move q0) <| ov [501, 500] (op_bin bin_add q0 q1) <| ov [528, 524, 520, 516, 512, 508, 504, 500] (op_buildI (xs := [.tmp 201, .tmp 205, .tmp 209, .tmp 213, .tmp 217, .tmp 221, .tmp 225, .tmp 229]) (ys := [IntKind.wrap .u32 ((a_0.getD (0 : Int).toNat 0) + y118), IntKind.wrap .u32 ((a_0.getD (1 : Int).toNat 0) + y119), IntKind.wrap .u32 ((a_0.getD (2 : Int).toNat 0) + y120), IntKind.wrap .u32 ((a_0.getD (3 : Int).toNat 0) + y121), IntKind.wrap .u32 ((a_0.getD (4 : Int).toNat 0) + y122), IntKind.wrap .u32 ((a_0.getD (5 : Int).toNat 0) + y123), IntKind.wrap .u32 ((a_0.getD (6 : Int).toNat 0) + y124), IntKind.wrap .u32 ((a_0.getD (7 : Int).toNat 0) + y125)]) rfl bu127 ⟨⟨_, q0, (cells_one (one_int _ _))⟩, ⟨_, q1, (cells_one (one_int _ _))⟩, ⟨_, q2, (cells_one (one_int _ _))⟩, ⟨_, q3, (cells_one (one_int _ _))⟩, ⟨_, (opt 4 rfl), (cells_one (one_int _ _))⟩, ⟨_, (opt 5 rfl), (cells_one (one_int _ _))⟩, ⟨_, (opt 6 rfl), (cells_one (one_int _ _))⟩, ⟨_, (opt 7 rfl), (cells_one (one_int _ _))⟩, trivial⟩ (by decide) rfl) <| ou [1, 500] 11 (op_store_w Tryz.sizeOf127 q0 q1 (cells_agg _)) .nil) fun _ a w h => ?_
                refine wp_ret ?_
                obtain rfl := Option.some.inj hF
                exact ⟨.inl rfl, ret1 h Tryz.results79 (r_cell 0 1 rfl rfl Tryz.isAgg127 Tryz.sizeOf127 rfl) [] [] rfl rfl rfl⟩

def ref01_After.b1 (x7 : List (UInt8)) (x8 : List Int) : Option (Flow ((List Int) × (List (UInt8))) ((List (UInt8)) × (List Int))) := (if (decide ((64 : Int) ≤ (x7.length : Int))) = true then (if (0 : Int) ≤ 0 ∧ (0 : Int) ≤ 64 ∧ (64 : Int) ≤ x7.length then ((ref01_Block x8 ((x7.take 64).drop (0 : Int).toNat)).bind fun r17 => (if (0 : Int) ≤ 64 ∧ (64 : Int) ≤ (x7.length : Int) ∧ (x7.length : Int) ≤ x7.length then some (.cont ((x7.take (x7.length : Int).toNat).drop 64, r17)) else none)) else none) else some (.brk (x7, x8)))
def ref01_After (a_0 : List Int) (a_1 : List (UInt8)) : Option ((List Int) × (List (UInt8))) := ((loopN (fun s : (List (UInt8)) × (List Int) => ref01_After.b1 s.1 s.2) (((a_1.length : Int) - 64 : Int).toNat + 2) (a_1, a_0)).bind fun cr => match cr with | .ret r => some r | .next (y23, y24) => some (y24, y23))
theorem ref01_After_ok {a_0 : List Int} {a_1 : List (UInt8)} {r : (List Int) × (List (UInt8))} (hF : ref01_After a_0 a_1 = some r) : CallOk Tryz.prog KG 61 [(aggVP [intsCk .u32 8 a_0]), (slVP bC a_1)] [] (fun _ => []) (tupVP [(aggVP [intsCk .u32 8 r.1]), (slVP bC r.2)]) := by
  refine CallOk.intro 17 Tryz.func61 rfl Tryz.ntmps61 (Nat.le_of_ble_eq_true rfl) ?_
  intro c a w hG hn h
  unfold ref01_After at hF
  change SatL c [.slot 0 (aggVP [intsCk .u32 8 a_0]), .slot 1 (slVP bC a_1)] a w at h
  refine regS mixed hn hG h [1, 504, 502, 503, 501] (ob [0] (op_box q0 (cells_agg _)) <| ob [] (op_alloc Tryz.zeroValue127 z127) <| ov [] (op_assign (opc (ec _))) .nil) fun b1 a w h => ?_
  refine wp_seq ?_
  refine wp_block ?_
  obtain ⟨cr19, hl20, hF⟩ := bind_some hF
  refine wp_mono (wp_loopN (R := (List Int) × (List (UInt8))) (S := (List (UInt8)) × (List Int)) (fun s a w => SatL c [.slot 1 (slVP bC s.1), .slot 2 (lpVP (b1 0) 0), .slot 4 (lpVP (b1 1) 0), .res (lb (b1 0) 127 [intsCk .u32 8 s.2]), .res (lb (b1 1) 127 [intsCk .u32 8 (List.replicate 8 0)])] a w) (fun res e a w => match res with | .next s => e = .exit 0 ∧ SatL c [.slot 1 (slVP bC s.1), .slot 2 (lpVP (b1 0) 0), .slot 4 (lpVP (b1 1) 0), .res (lb (b1 0) 127 [intsCk .u32 8 s.2]), .res (lb (b1 1) 127 [intsCk .u32 8 (List.replicate 8 0)])] a w | .ret r => e = .ret ∧ RetOk Tryz.prog Tryz.f61 c (tupVP [(aggVP [intsCk .u32 8 r.1]), (slVP bC r.2)]) (fun _ => []) a w) ?_ _ (a_1, a_0) _ _ _ (h.sub [0, 1, 2, 3, 4] (by rfl)) hl20) ?_
  · clear hl20 hF h
    intro s a w o h hF
    obtain ⟨x7, x8⟩ := s
    change ref01_After.b1 x7 x8 = some o at hF
    unfold ref01_After.b1 at hF
    change SatL c [.slot 1 (slVP bC x7), .slot 2 (lpVP (b1 0) 0), .slot 4 (lpVP (b1 1) 0), .res (lb (b1 0) 127 [intsCk .u32 8 x8]), .res (lb (b1 1) 127 [intsCk .u32 8 (List.replicate 8 0)])] a w at h
    refine wp_seq ?_
    refine regS mixed hn hG h [0, 1, 2, 500, 3, 4] (ov [0] (op_move q0) <| ov [500] (op_len_sl Tryz.underlying119 q0) <| ov [500] (op_bin bin_geq q0 qi) .nil) fun _ a w h => ?_
    refine cnd h hF 3 [0, 1, 2, 4, 5] [0, 1, 2, 4, 5] (fun hb15 hF h => ?_) (fun hb15 hF h => ?_)
    · refine wp_skip ?_
      show Code.wp Tryz.prog _ _ a w
      refine wp_block ?_
      obtain ⟨hv16, hF⟩ := ite_some hF
      obtain ⟨r17, hr17, hF⟩ := bind_some hF
      refine regS mixed hn hG h [0, 1, 2, 500, 4] (ov [1, 3] (op_load_w 1 Tryz.isAgg127 Tryz.sizeOf127 q0) <| ov [0] (op_move q0) <| ov [500] (op_slice_sl (a := 0) (b := 64) Tryz.underlying119 Tryz.sizeOf5 lens_bC q0 rfl ⟨_, qi⟩ hv16) <| oc [502, 500] [] Tryz.call79 (ref01_Block_ok hr17) ⟨q0, q1, trivial⟩ <| ou [1, 500] 3 (op_store_w Tryz.sizeOf127 q0 q1 (cells_agg _)) .nil) fun _ a w h => ?_
      obtain ⟨hv18, hF⟩ := ite_some hF
      refine reg mixed hn hG h [500, 1, 2, 3, 4] (ov [0] (op_move q0) <| ov [500] (op_slice_sl (a := 64) (b := (x7.length : Int)) Tryz.underlying119 Tryz.sizeOf5 lens_bC q0 ⟨_, qi⟩ rfl hv18) <| od [500] 0 (op_assign q0) .nil) fun _ a w h => ?_
      obtain rfl := Option.some.inj hF
      exact ⟨rfl, h.sub [0, 1, 2, 3, 4] (by rfl)⟩
    · refine wp_exit ?_
      obtain rfl := Option.some.inj hF
      exact ⟨exit_ne _, rfl, h.sub [0, 1, 2, 3, 4] (by rfl)⟩
  · clear hl20
    intro e a w hq
    cases cr19 with
    | ret r21 =>
      obtain ⟨rfl, hq⟩ := hq
      obtain rfl := Option.some.inj hF
      exact ⟨.inl rfl, hq⟩
    | next s22 =>
      obtain ⟨y23, y24⟩ := s22
      obtain ⟨rfl, h⟩ := hq
      change SatL c [.slot 1 (slVP bC y23), .slot 2 (lpVP (b1 0) 0), .slot 4 (lpVP (b1 1) 0), .res (lb (b1 0) 127 [intsCk .u32 8 y24]), .res (lb (b1 1) 127 [intsCk .u32 8 (List.replicate 8 0)])] a w at h
      refine inBlock_at ?_
      show Code.wp Tryz.prog _ _ a w
      refine regS mixed hn hG h [2, 500, 501] (ov [1, 3] (op_load_w 1 Tryz.isAgg127 Tryz.sizeOf127 q0) <| ov [0] (op_move q0) <| ou [2, 501] 4 (op_store_w Tryz.sizeOf127 q0 q1 (cells_agg _)) <| ov [501] (op_assign q0) .nil) fun _ a w h => ?_
      refine wp_ret ?_
      obtain rfl := Option.some.inj hF
      exact ⟨.inl rfl, retn h (rs := [.cell 4 127, .tmp 5]) (Vs := [(aggVP [intsCk .u32 8 y24]), (slVP bC y23)]) Tryz.results61 (by decide) ⟨(r_cell 0 2 rfl rfl Tryz.isAgg127 Tryz.sizeOf127 rfl), (r_tmp 1 rfl), trivial⟩ [] [] rfl rfl rfl⟩

def ref01_First : Option (List Int) := some ([1779033703, 3144134277, 1013904242, 2773480762, 1359893119, 2600822924, 528734635, 1541459225] ++ List.replicate (8 - 8) 0)
theorem ref01_First_ok {r : (List Int)} (hF : ref01_First = some r) : CallOk Tryz.prog KG 62 [] [] (fun _ => []) (aggVP [intsCk .u32 8 r]) := by
  refine CallOk.intro 2 Tryz.func62 rfl Tryz.ntmps62 (Nat.le_of_ble_eq_true rfl) ?_
  intro c a w hG hn h
  unfold ref01_First at hF
  change SatL c [] a w at h
  refine regS mixed hn hG h [501, 500] (ob [] (op_alloc Tryz.zeroValue127 z127) .nil) fun b1 a w h => ?_
  refine regS mixed hn hG h [0, 500] (ov [] (op_buildI (xs := [.const (.int .u32 1779033703), .const (.int .u32 3144134277), .const (.int .u32 1013904242), .const (.int .u32 2773480762), .const (.int .u32 1359893119), .const (.int .u32 2600822924), .const (.int .u32 528734635), .const (.int .u32 1541459225)]) (ys := [1779033703, 3144134277, 1013904242, 2773480762, 1359893119, 2600822924, 528734635, 1541459225]) rfl bu127 ⟨⟨_, qi, (cells_one (one_int _ _))⟩, ⟨_, qi, (cells_one (one_int _ _))⟩, ⟨_, qi, (cells_one (one_int _ _))⟩, ⟨_, qi, (cells_one (one_int _ _))⟩, ⟨_, qi, (cells_one (one_int _ _))⟩, ⟨_, qi, (cells_one (one_int _ _))⟩, ⟨_, qi, (cells_one (one_int _ _))⟩, ⟨_, qi, (cells_one (one_int _ _))⟩, trivial⟩ (by decide) rfl) <| ou [0, 500] 1 (op_store_w Tryz.sizeOf127 q0 q1 (cells_agg _)) .nil) fun _ a w h => ?_
  refine wp_ret ?_
  obtain rfl := Option.some.inj hF
  exact ⟨.inl rfl, ret1 h Tryz.results62 (r_cell 0 1 rfl rfl Tryz.isAgg127 Tryz.sizeOf127 rfl) [] [] rfl rfl rfl⟩

def ref01_End.b1 (x11 : List (UInt8)) : Option (Flow (List UInt8) (List (UInt8))) := (if (!decide (((x11.length : Int).tmod 64) = (56 : Int))) = true then (if x11.length + [u8of 0].length ≤ mxl ∧ (x11.length + [u8of 0].length) * 1 ≤ 140737488355328 then some (.cont (x11 ++ [u8of 0])) else none) else some (.brk x11))
def ref01_End.b2 (a_2 : Int) (x29 : Int) (x30 : List (UInt8)) : Option (Flow (List UInt8) (Int × (List (UInt8)))) := (if (decide (x29 < (8 : Int))) = true then (if x30.length + [u8of (IntKind.wrap .u8 (shr .u64 (IntKind.wrap .u64 (8 * a_2)) (IntKind.wrap .u64 (IntKind.wrap .i64 (56 - (IntKind.wrap .i64 (8 * x29)))))))].length ≤ mxl ∧ (x30.length + [u8of (IntKind.wrap .u8 (shr .u64 (IntKind.wrap .u64 (8 * a_2)) (IntKind.wrap .u64 (IntKind.wrap .i64 (56 - (IntKind.wrap .i64 (8 * x29)))))))].length) * 1 ≤ 140737488355328 then some (.cont (IntKind.wrap .i64 (x29 + 1), x30 ++ [u8of (IntKind.wrap .u8 (shr .u64 (IntKind.wrap .u64 (8 * a_2)) (IntKind.wrap .u64 (IntKind.wrap .i64 (56 - (IntKind.wrap .i64 (8 * x29)))))))])) else none) else some (.brk (x29, x30)))
def ref01_End.b3 (r47 : (List Int) × (List (UInt8))) (x51 : Int) (x52 : List UInt8) : Option (Flow (List UInt8) (Int × (List UInt8))) := (if (decide (x51 < (32 : Int))) = true then (if (0 : Int) ≤ IntKind.wrap .i64 (x51.tdiv 4) ∧ IntKind.wrap .i64 (x51.tdiv 4) < 8 then (if (0 : Int) ≤ x51 ∧ x51 < 32 then some (.cont (IntKind.wrap .i64 (x51 + 1), x52.set x51.toNat (u8of (IntKind.wrap .u8 (shr .u32 (r47.1.getD (IntKind.wrap .i64 (x51.tdiv 4)).toNat 0) (IntKind.wrap .u64 (IntKind.wrap .i64 (24 - (IntKind.wrap .i64 (8 * (x51.tmod 4))))))))))) else none) else none) else some (.brk (x51, x52)))
def ref01_End (a_0 : List Int) (a_1 : List (UInt8)) (a_2 : Int) : Option (List UInt8) := (if ([] : List UInt8).length + a_1.length ≤ mxl ∧ (([] : List UInt8).length + a_1.length) * 1 ≤ 140737488355328 then (if (([] : List UInt8) ++ a_1).length + [u8of 128].length ≤ mxl ∧ ((([] : List UInt8) ++ a_1).length + [u8of 128].length) * 1 ≤ 140737488355328 then ((loopN (fun s : (List (UInt8)) => ref01_End.b1 s) 100000 ((([] : List UInt8) ++ a_1) ++ [u8of 128])).bind fun cr => match cr with | .ret r => some r | .next y25 => ((loopN (fun s : Int × (List (UInt8)) => ref01_End.b2 a_2 s.1 s.2) ((8 - 0 : Int).toNat + 2) (0, y25)).bind fun cr => match cr with | .ret r => some r | .next (y45, y46) => ((ref01_After a_0 y46).bind fun r47 => ((loopN (fun s : Int × (List UInt8) => ref01_End.b3 r47 s.1 s.2) ((32 - 0 : Int).toNat + 2) (0, (List.replicate 32 0))).bind fun cr => match cr with | .ret r => some r | .next (y65, y66) => some y66)))) else none) else none)
theorem ref01_End_ok {a_0 : List Int} {a_1 : List (UInt8)} {a_2 : Int} {r : (List UInt8)} (hF : ref01_End a_0 a_1 a_2 = some r) : CallOk Tryz.prog KG 63 [(aggVP [intsCk .u32 8 a_0]), (slVP bC a_1), (intVP .u64 a_2)] [] (fun _ => []) (aggVP [bytesCk 32 r]) := by
  refine CallOk.intro 65 Tryz.func63 rfl Tryz.ntmps63 (Nat.le_of_ble_eq_true rfl) ?_
  intro c a w hG hn h
  unfold ref01_End at hF
  change SatL c [.slot 0 (aggVP [intsCk .u32 8 a_0]), .slot 1 (slVP bC a_1), .slot 2 (intVP .u64 a_2)] a w at h
  refine regS mixed hn hG h [1, 2, 503, 501, 502, 500] (ob [0] (op_box q0 (cells_agg _)) <| ob [] (op_alloc Tryz.zeroValue23 z23) .nil) fun b1 a w h => ?_
  refine regS mixed hn hG h [0, 1, 2, 3, 500, 4, 5] (ov [] (op_assign (opc (ec _))) .nil) fun _ a w h => ?_
  obtain ⟨q3, h⟩ : ∃ q3 : Value, SatL c [.slot 1 (slVP bC a_1), .slot 2 (intVP .u64 a_2), .slot 3 (lpVP (b1 0) 0), .slot 6 (lpVP (b1 1) 0), .slot 7 (eqVP q3), .res (lb (b1 0) 127 [intsCk .u32 8 a_0]), .res (lb (b1 1) 23 [bytesCk 32 (List.replicate 32 0)]), .res (acc q3 5 1 bC ([] : List UInt8))] a w := ⟨.slice none 0 0, (h.nilacc 5 1 bC).sub [0, 1, 2, 3, 4, 5, 6, 7] (by rfl)⟩
  obtain ⟨hv4, hF⟩ := ite_some hF
  refine regS mixed hn hG h [1, 2, 3, 500, 5, 6, 501] (ov [4] (op_move q0) <| ov [0] (op_move q0) <| og [501, 500] [7] [.slot 14 2 100000 (fun v1_ _ => (eqVP v1_)), .res 2 100000 (fun v1_ _ => (acc (v1_) 5 1 bC (([] : List UInt8) ++ a_1)))] (GOk.plain (op_append (i := Tryz.t5) Tryz.underlying119 Tryz.type5 rfl lens_bC (by decide) rfl q0 q1 hv4) rfl) <| og [501] [4] [.slot 7 2 100000 (fun v1_ _ => (eqVP v1_))] (fun {β} => (GOk.drop _ (GOk.plain (op_assign (V := (eqVP (β 2))) q0) rfl))) .nil) fun b5 a w h => ?_
  obtain ⟨hv6, hF⟩ := ite_some hF
  refine regS mixed hn hG h [0, 1, 2, 500, 4, 5, 501] (ov [3] (op_move q0) <| ov [] (op_lit (xs := [.const (.int .u8 128)]) (ys := [u8of 128]) _ rfl Tryz.underlying119 Tryz.sizeOf5 Tryz.zeroValue5 rfl rfl (by decide) (by decide) ⟨⟨_, qi, (cells_u8 _)⟩, trivial⟩ lens_bC) <| og [501, 500] [6] [.slot 17 2 100000 (fun v1_ _ => (eqVP v1_)), .res 2 100000 (fun v1_ _ => (acc (v1_) 5 1 bC ((([] : List UInt8) ++ a_1) ++ [u8of 128])))] (GOk.plain (op_append (i := Tryz.t5) Tryz.underlying119 Tryz.type5 rfl lens_bC (by decide) rfl q0 q1 hv6) rfl) <| og [501] [3] [.slot 7 2 100000 (fun v1_ _ => (eqVP v1_))] (fun {β} => (GOk.drop _ (GOk.plain (op_assign (V := (eqVP (β 2))) q0) rfl))) .nil) fun b7 a w h => ?_
  refine wp_seq ?_
  refine wp_block ?_
  obtain ⟨cr21, hl22, hF⟩ := bind_some hF
  refine wp_mono (wp_loopN (R := (List UInt8)) (S := (List (UInt8))) (fun s a w => ∃ q12 : Value, SatL c [.slot 2 (intVP .u64 a_2), .slot 3 (lpVP (b1 0) 0), .slot 6 (lpVP (b1 1) 0), .slot 7 (eqVP q12), .res (lb (b1 0) 127 [intsCk .u32 8 a_0]), .res (lb (b1 1) 23 [bytesCk 32 (List.replicate 32 0)]), .res (acc q12 5 1 bC s)] a w) (fun res e a w => match res with | .next s => e = .exit 0 ∧ ∃ q12 : Value, SatL c [.slot 2 (intVP .u64 a_2), .slot 3 (lpVP (b1 0) 0), .slot 6 (lpVP (b1 1) 0), .slot 7 (eqVP q12), .res (lb (b1 0) 127 [intsCk .u32 8 a_0]), .res (lb (b1 1) 23 [bytesCk 32 (List.replicate 32 0)]), .res (acc q12 5 1 bC s)] a w | .ret r => e = .ret ∧ RetOk Tryz.prog Tryz.f63 c (aggVP [bytesCk 32 r]) (fun _ => []) a w) ?_ _ ((([] : List UInt8) ++ a_1) ++ [u8of 128]) _ _ _ ⟨(b7 2), (h.sub [0, 1, 2, 3, 4, 5, 6] (by rfl))⟩ hl22) ?_
  · clear hl22 hF h
    intro x11 a w o h hF
    obtain ⟨q12, h⟩ := h
    change ref01_End.b1 x11 = some o at hF
    unfold ref01_End.b1 at hF
    change SatL c [.slot 2 (intVP .u64 a_2), .slot 3 (lpVP (b1 0) 0), .slot 6 (lpVP (b1 1) 0), .slot 7 (eqVP q12), .res (lb (b1 0) 127 [intsCk .u32 8 a_0]), .res (lb (b1 1) 23 [bytesCk 32 (List.replicate 32 0)]), .res (acc q12 5 1 bC x11)] a w at h
    refine wp_seq ?_
    refine regS mixed hn hG h [0, 1, 2, 3, 500, 4, 5, 6] (ov [3] (op_move q0) <| ov [500, 6] (op_len_sl Tryz.underlying119 (opacc 0 1 rfl rfl)) <| ov [500] (op_bin (bin_rem (by decide)) q0 qi) <| ov [500] (op_bin bin_neq q0 qi) .nil) fun _ a w h => ?_
    refine cnd h hF 4 [0, 1, 2, 3, 5, 6, 7] [0, 1, 2, 3, 5, 6, 7] (fun hb18 hF h => ?_) (fun hb18 hF h => ?_)
    · refine wp_skip ?_
      show Code.wp Tryz.prog _ _ a w
      refine wp_block ?_
      obtain ⟨hv19, hF⟩ := ite_some hF
      refine reg mixed hn hG h [0, 1, 2, 500, 4, 5, 501] (ov [3] (op_move q0) <| ov [] (op_lit (xs := [.const (.int .u8 0)]) (ys := [u8of 0]) _ rfl Tryz.underlying119 Tryz.sizeOf5 Tryz.zeroValue5 rfl rfl (by decide) (by decide) ⟨⟨_, qi, (cells_u8 _)⟩, trivial⟩ lens_bC) <| og [501, 500] [6] [.slot 24 2 100000 (fun v1_ _ => (eqVP v1_)), .res 2 100000 (fun v1_ _ => (acc (v1_) 5 1 bC (x11 ++ [u8of 0])))] (GOk.plain (op_append (i := Tryz.t5) Tryz.underlying119 Tryz.type5 rfl lens_bC (by decide) rfl q0 q1 hv19) rfl) <| og [501] [3] [.slot 7 2 100000 (fun v1_ _ => (eqVP v1_))] (fun {β} => (GOk.drop _ (GOk.plain (op_assign (V := (eqVP (β 2))) q0) rfl))) .nil) fun b20 a w h => ?_
      obtain rfl := Option.some.inj hF
      exact ⟨rfl, (b20 2), h.sub [0, 1, 2, 3, 4, 5, 6] (by rfl)⟩
    · refine wp_exit ?_
      obtain rfl := Option.some.inj hF
      exact ⟨exit_ne _, rfl, q12, h.sub [0, 1, 2, 3, 4, 5, 6] (by rfl)⟩
  · clear hl22
    intro e a w hq
    cases cr21 with
    | ret r23 =>
      obtain ⟨rfl, hq⟩ := hq
      obtain rfl := Option.some.inj hF
      exact ⟨.inl rfl, hq⟩
    | next y25 =>
      obtain ⟨rfl, q12, h⟩ := hq
      change SatL c [.slot 2 (intVP .u64 a_2), .slot 3 (lpVP (b1 0) 0), .slot 6 (lpVP (b1 1) 0), .slot 7 (eqVP q12), .res (lb (b1 0) 127 [intsCk .u32 8 a_0]), .res (lb (b1 1) 23 [bytesCk 32 (List.replicate 32 0)]), .res (acc q12 5 1 bC y25)] a w at h
      refine inBlock_at ?_
      show Code.wp Tryz.prog _ _ a w
      refine regS mixed hn hG h [1, 2, 3, 500, 4, 5, 6] (ov [0] (op_move q0) <| ov [500] (op_bin bin_mul qi q0) <| ov [500] (op_assign q0) .nil) fun _ a w h => ?_
      refine wp_seq ?_
      refine regS mixed hn hG h [0, 1, 2, 3, 500, 4, 5, 6] (ov [] (op_assign qi) .nil) fun _ a w h => ?_
      refine wp_block ?_
      obtain ⟨cr41, hl42, hF⟩ := bind_some hF
      refine wp_mono (wp_loopN (R := (List UInt8)) (S := Int × (List (UInt8))) (fun s a w => ∃ q31 : Value, SatL c [.slot 3 (lpVP (b1 0) 0), .slot 6 (lpVP (b1 1) 0), .slot 7 (eqVP q31), .slot 8 (intVP .u64 (IntKind.wrap .u64 (8 * a_2))), .slot 9 (intVP .i64 s.1), .res (lb (b1 0) 127 [intsCk .u32 8 a_0]), .res (lb (b1 1) 23 [bytesCk 32 (List.replicate 32 0)]), .res (acc q31 5 1 bC s.2)] a w) (fun res e a w => match res with | .next s => e = .exit 2 ∧ ∃ q31 : Value, SatL c [.slot 3 (lpVP (b1 0) 0), .slot 6 (lpVP (b1 1) 0), .slot 7 (eqVP q31), .res (lb (b1 0) 127 [intsCk .u32 8 a_0]), .res (lb (b1 1) 23 [bytesCk 32 (List.replicate 32 0)]), .res (acc q31 5 1 bC s.2)] a w | .ret r => e = .ret ∧ RetOk Tryz.prog Tryz.f63 c (aggVP [bytesCk 32 r]) (fun _ => []) a w) ?_ _ (0, y25) _ _ _ ⟨q12, (h.sub [0, 1, 2, 3, 4, 5, 6, 7] (by rfl))⟩ hl42) ?_
      · clear hl42 hF h
        intro s a w o h hF
        obtain ⟨x29, x30⟩ := s
        obtain ⟨q31, h⟩ := h
        change ref01_End.b2 a_2 x29 x30 = some o at hF
        unfold ref01_End.b2 at hF
        change SatL c [.slot 3 (lpVP (b1 0) 0), .slot 6 (lpVP (b1 1) 0), .slot 7 (eqVP q31), .slot 8 (intVP .u64 (IntKind.wrap .u64 (8 * a_2))), .slot 9 (intVP .i64 x29), .res (lb (b1 0) 127 [intsCk .u32 8 a_0]), .res (lb (b1 1) 23 [bytesCk 32 (List.replicate 32 0)]), .res (acc q31 5 1 bC x30)] a w at h
        refine wp_seq ?_
        refine regS mixed hn hG h [0, 1, 2, 3, 4, 500, 5, 6, 7] (ov [4] (op_move q0) <| ov [500] (op_bin bin_lss q0 qi) .nil) fun _ a w h => ?_
        refine cnd h hF 5 [0, 1, 2, 3, 4, 6, 7, 8] [0, 1, 2, 3, 4, 6, 7, 8] (fun hb38 hF h => ?_) (fun hb38 hF h => ?_)
        · refine wp_skip ?_
          show Code.wp Tryz.prog _ _ a w
          refine wp_seq ?_
          refine wp_block ?_
          obtain ⟨hv39, hF⟩ := ite_some hF
          refine reg mixed hn hG h [0, 1, 500, 3, 4, 5, 6, 501] (ov [2] (op_move q0) <| ov [3] (op_move q0) <| ov [4] (op_move q0) <| ov [500] (op_bin bin_mul qi q0) <| ov [500] (op_bin bin_sub qi q0) <| ov [500] (op_convert_int Tryz.underlying3 Tryz.underlying151 q0) <| ov [504, 500] (op_bin (bin_shru rfl) q0 q1) <| ov [500] (op_convert_int Tryz.underlying32 Tryz.underlying5 q0) <| ov [500] (op_lit (xs := [.tmp 38]) (ys := [u8of (IntKind.wrap .u8 (shr .u64 (IntKind.wrap .u64 (8 * a_2)) (IntKind.wrap .u64 (IntKind.wrap .i64 (56 - (IntKind.wrap .i64 (8 * x29)))))))]) _ rfl Tryz.underlying119 Tryz.sizeOf5 Tryz.zeroValue5 rfl rfl (by decide) (by decide) ⟨⟨_, q0, (cells_u8 _)⟩, trivial⟩ lens_bC) <| og [508, 500] [7] [.slot 40 9 100000 (fun v1_ _ => (eqVP v1_)), .res 9 100000 (fun v1_ _ => (acc (v1_) 5 1 bC (x30 ++ [u8of (IntKind.wrap .u8 (shr .u64 (IntKind.wrap .u64 (8 * a_2)) (IntKind.wrap .u64 (IntKind.wrap .i64 (56 - (IntKind.wrap .i64 (8 * x29)))))))])))] (GOk.plain (op_append (i := Tryz.t5) Tryz.underlying119 Tryz.type5 rfl lens_bC (by decide) rfl q0 q1 hv39) rfl) <| og [501] [2] [.slot 7 9 100000 (fun v1_ _ => (eqVP v1_))] (fun {β} => (GOk.drop _ (GOk.plain (op_assign (V := (eqVP (β 9))) q0) rfl))) .nil) fun b40 a w h => ?_
          show Code.wp Tryz.prog _ _ a w
          refine reg mixed hn hG h [0, 1, 2, 3, 500, 5, 6, 7] (ov [4] (op_move q0) <| ov [500] (op_bin bin_add q0 qi) <| od [500] 4 (op_assign q0) .nil) fun _ a w h => ?_
          obtain rfl := Option.some.inj hF
          exact ⟨rfl, (b40 9), h.sub [0, 1, 2, 3, 4, 5, 6, 7] (by rfl)⟩
        · refine wp_exit ?_
          obtain rfl := Option.some.inj hF
          exact ⟨exit_ne _, rfl, q31, h.sub [0, 1, 2, 5, 6, 7] (by rfl)⟩
      · clear hl42
        intro e a w hq
        cases cr41 with
        | ret r43 =>
          obtain ⟨rfl, hq⟩ := hq
          obtain rfl := Option.some.inj hF
          exact ⟨.inl rfl, hq⟩
        | next s44 =>
          obtain ⟨y45, y46⟩ := s44
          obtain ⟨rfl, q31, h⟩ := hq
          change SatL c [.slot 3 (lpVP (b1 0) 0), .slot 6 (lpVP (b1 1) 0), .slot 7 (eqVP q31), .res (lb (b1 0) 127 [intsCk .u32 8 a_0]), .res (lb (b1 1) 23 [bytesCk 32 (List.replicate 32 0)]), .res (acc q31 5 1 bC y46)] a w at h
          refine inBlock_at ?_
          show Code.wp Tryz.prog _ _ a w
          obtain ⟨r47, hr47, hF⟩ := bind_some hF
          refine regS mixed hn hG h [0, 1, 500, 4] (ov [0, 3] (op_load_w 1 Tryz.isAgg127 Tryz.sizeOf127 q0) <| ov [2] (op_move q0) <| oc [501, 500, 5] [] Tryz.call61 (ref01_After_ok hr47) ⟨q0, (opacc 1 2 rfl rfl), trivial⟩ <| ov [500] (op_move q0) <| ov [500] (op_extract q0 rfl) <| ov [501] (op_extract q0 rfl) <| ou [0, 501] 3 (op_store_w Tryz.sizeOf127 q0 q1 (cells_agg _)) .nil) fun _ a w h => ?_
          refine regS mixed hn hG h [0, 1, 501, 2, 3, 500] (ob [] (op_alloc Tryz.zeroValue23 z23) .nil) fun b48 a w h => ?_
          refine wp_seq ?_
          refine regS mixed hn hG h [0, 1, 2, 500, 3, 4, 5] (ov [] (op_assign qi) .nil) fun _ a w h => ?_
          refine wp_block ?_
          obtain ⟨cr61, hl62, hF⟩ := bind_some hF
          refine wp_mono (wp_loopN (R := (List UInt8)) (S := Int × (List UInt8)) (fun s a w => SatL c [.slot 3 (lpVP (b1 0) 0), .slot 6 (lpVP (b1 1) 0), .slot 10 (lpVP (b48 0) 0), .slot 11 (intVP .i64 s.1), .res (lb (b1 0) 127 [intsCk .u32 8 r47.1]), .res (lb (b1 1) 23 [bytesCk 32 (List.replicate 32 0)]), .res (lb (b48 0) 23 [bytesCk 32 s.2])] a w) (fun res e a w => match res with | .next s => e = .exit 4 ∧ SatL c [.slot 6 (lpVP (b1 1) 0), .slot 10 (lpVP (b48 0) 0), .res (lb (b1 1) 23 [bytesCk 32 (List.replicate 32 0)]), .res (lb (b48 0) 23 [bytesCk 32 s.2])] a w | .ret r => e = .ret ∧ RetOk Tryz.prog Tryz.f63 c (aggVP [bytesCk 32 r]) (fun _ => []) a w) ?_ _ (0, (List.replicate 32 0)) _ _ _ (h.sub [0, 1, 2, 3, 4, 5, 6] (by rfl)) hl62) ?_
          · clear hl62 hF h
            intro s a w o h hF
            obtain ⟨x51, x52⟩ := s
            change ref01_End.b3 r47 x51 x52 = some o at hF
            unfold ref01_End.b3 at hF
            change SatL c [.slot 3 (lpVP (b1 0) 0), .slot 6 (lpVP (b1 1) 0), .slot 10 (lpVP (b48 0) 0), .slot 11 (intVP .i64 x51), .res (lb (b1 0) 127 [intsCk .u32 8 r47.1]), .res (lb (b1 1) 23 [bytesCk 32 (List.replicate 32 0)]), .res (lb (b48 0) 23 [bytesCk 32 x52])] a w at h
            refine wp_seq ?_
            refine regS mixed hn hG h [0, 1, 2, 3, 500, 4, 5, 6] (ov [3] (op_move q0) <| ov [500] (op_bin bin_lss q0 qi) .nil) fun _ a w h => ?_
            refine cnd h hF 4 [0, 1, 2, 3, 5, 6, 7] [0, 1, 2, 3, 5, 6, 7] (fun hb58 hF h => ?_) (fun hb58 hF h => ?_)
            · refine wp_skip ?_
              show Code.wp Tryz.prog _ _ a w
              refine wp_seq ?_
              refine wp_block ?_
              obtain ⟨hv59, hF⟩ := ite_some hF
              obtain ⟨hv60, hF⟩ := ite_some hF
              refine reg mixed hn hG h [0, 1, 2, 3, 4, 5, 500] (ov [3] (op_move q0) <| ov [3] (op_move q0) <| ov [500] (op_bin (bin_quo (by decide)) q0 qi) <| ov [0, 500] (op_indexAddr_lb Tryz.underlying127 Tryz.sizeOf31 q0 q1 hv59) <| ov [500, 4] (op_load_lbI (i := IntKind.wrap .i64 (x51.tdiv 4)) [] [] 1 Tryz.isAgg31 q0 rfl rfl hv59) <| ov [3] (op_move q0) <| ov [500] (op_bin (bin_rem (by decide)) q0 qi) <| ov [500] (op_bin bin_mul qi q0) <| ov [500] (op_bin bin_sub qi q0) <| ov [500] (op_convert_int Tryz.underlying3 Tryz.underlying151 q0) <| ov [505, 500] (op_bin (bin_shru rfl) q0 q1) <| ov [500] (op_convert_int Tryz.underlying31 Tryz.underlying5 q0) <| ov [2, 511] (op_indexAddr_lb Tryz.underlying23 Tryz.sizeOf5 q0 q1 hv60) <| ou [500, 501] 6 (op_store_lbB (i := x51) [] [] Tryz.sizeOf5 q0 q1 rfl hv60) .nil) fun _ a w h => ?_
              show Code.wp Tryz.prog _ _ a w
              refine reg mixed hn hG h [0, 1, 2, 500, 4, 5, 6] (ov [3] (op_move q0) <| ov [500] (op_bin bin_add q0 qi) <| od [500] 3 (op_assign q0) .nil) fun _ a w h => ?_
              obtain rfl := Option.some.inj hF
              exact ⟨rfl, h.sub [0, 1, 2, 3, 4, 5, 6] (by rfl)⟩
            · refine wp_exit ?_
              obtain rfl := Option.some.inj hF
              exact ⟨exit_ne _, rfl, h.sub [1, 2, 5, 6] (by rfl)⟩
          · clear hl62
            intro e a w hq
            cases cr61 with
            | ret r63 =>
              obtain ⟨rfl, hq⟩ := hq
              obtain rfl := Option.some.inj hF
              exact ⟨.inl rfl, hq⟩
            | next s64 =>
              obtain ⟨y65, y66⟩ := s64
              obtain ⟨rfl, h⟩ := hq
              change SatL c [.slot 6 (lpVP (b1 1) 0), .slot 10 (lpVP (b48 0) 0), .res (lb (b1 1) 23 [bytesCk 32 (List.replicate 32 0)]), .res (lb (b48 0) 23 [bytesCk 32 y66])] a w at h
              refine inBlock_at ?_
              show Code.wp Tryz.prog _ _ a w
              refine regS mixed hn hG h [0, 500] (ov [1, 3] (op_load_w 1 Tryz.isAgg23 Tryz.sizeOf23 q0) <| ou [0, 500] 2 (op_store_w Tryz.sizeOf23 q0 q1 (cells_agg _)) .nil) fun _ a w h => ?_
              refine wp_ret ?_
              obtain rfl := Option.some.inj hF
              exact ⟨.inl rfl, ret1 h Tryz.results63 (r_cell 0 1 rfl rfl Tryz.isAgg23 Tryz.sizeOf23 rfl) [] [] rfl rfl rfl⟩

def ref01_Sum (a_0 : List UInt8) : Option (List UInt8) := ((ref01_First).bind fun r2 => ((ref01_After r2 a_0).bind fun r3 => ((ref01_End r3.1 r3.2 (IntKind.wrap .u64 (a_0.length : Int))).bind fun r5 => some r5)))
theorem ref01_Sum_ok {a_0 : List UInt8} {r : (List UInt8)} (hF : ref01_Sum a_0 = some r) : CallOk Tryz.prog KG 40 [(strVP a_0)] [] (fun _ => []) (aggVP [bytesCk 32 r]) := by
  refine CallOk.intro 18 Tryz.func40 rfl Tryz.ntmps40 (Nat.le_of_ble_eq_true rfl) ?_
  intro c a w hG hn h
  unfold ref01_Sum at hF
  change SatL c [.slot 0 (strVP a_0)] a w at h
  refine regS mixed hn hG h [0, 501, 500] (ob [] (op_alloc Tryz.zeroValue23 z23) .nil) fun b1 a w h => ?_
  obtain ⟨r2, hr2, hF⟩ := bind_some hF
  obtain ⟨r3, hr3, hF⟩ := bind_some hF
  refine regS mixed hn hG h [0, 1, 503, 500, 2, 501] (oc [] [] Tryz.call62 (ref01_First_ok hr2) trivial <| ov [0] (op_move q0) <| ov [500] (op_conv_str_sl Tryz.underlying9 Tryz.underlying119 Tryz.underlying5 q0) <| oc [502, 500] [] Tryz.call61 (ref01_After_ok hr3) ⟨q0, q1, trivial⟩ <| ov [500] (op_move q0) <| ov [500] (op_extract q0 rfl) <| ov [501] (op_extract q0 rfl) <| ob [] (op_alloc Tryz.zeroValue127 z127) <| og [501, 503] [500] [.res 7 100000 (fun v1_ _ => (lb (v1_) 127 [intsCk .u32 8 r3.1]))] (GOk.plain (op_store_w Tryz.sizeOf127 q0 q1 (cells_agg _)) rfl) <| ov [503] (op_assign q0) .nil) fun b4 a w h => ?_
  obtain ⟨r5, hr5, hF⟩ := bind_some hF
  refine regS mixed hn hG h [1, 500] (ov [2, 5] (op_load_w 1 Tryz.isAgg127 Tryz.sizeOf127 q0) <| ov [3] (op_move q0) <| ov [0] (op_move q0) <| ov [500] (op_len_str Tryz.underlying9 q0) <| ov [500] (op_convert_int Tryz.underlying3 Tryz.underlying32 q0) <| oc [504, 503, 500] [] Tryz.call63 (ref01_End_ok hr5) ⟨q0, q1, q2, trivial⟩ <| ou [1, 500] 4 (op_store_w Tryz.sizeOf23 q0 q1 (cells_agg _)) .nil) fun _ a w h => ?_
  refine wp_ret ?_
  obtain rfl := Option.some.inj hF
  exact ⟨.inl rfl, ret1 h Tryz.results40 (r_cell 0 1 rfl rfl Tryz.isAgg23 Tryz.sizeOf23 rfl) [] [] rfl rfl rfl⟩

def ref04_Log_Note.n (a_1 : List UInt8) (a_2 : List UInt8) : Option (Option O_RLog) := some none
def ref04_Log_Note.b1 (s_0 : O_RLog) (a_1 : List UInt8) (a_2 : List UInt8) (x8 : Int) : Option (Flow (Option O_RLog) Int) := (if (decide (x8 < (((lkp a_1 s_0.f_Digests).getD []).length : Int))) = true then (if (0 : Int) ≤ x8 ∧ x8 < ((lkp a_1 s_0.f_Digests).getD []).length then (if (decide ((((lkp a_1 s_0.f_Digests).getD []).getD x8.toNat default) = a_2)) = true then some (.ret (some s_0)) else some (.cont (IntKind.wrap .i64 (x8 + 1)))) else none) else some (.brk x8))
def ref04_Log_Note.s (s_0 : O_RLog) (a_1 : List UInt8) (a_2 : List UInt8) : Option (Option O_RLog) := ((loopN (fun s : Int => ref04_Log_Note.b1 s_0 a_1 a_2 s) (((((lkp a_1 s_0.f_Digests).getD []).length : Int) - 0 : Int).toNat + 2) 0).bind fun cr => match cr with | .ret r => some r | .next y20 => (if ((lkp a_1 s_0.f_Digests).getD ([] : List (List UInt8))).length + [a_2].length ≤ mxl ∧ (((lkp a_1 s_0.f_Digests).getD ([] : List (List UInt8))).length + [a_2].length) * 16 ≤ 140737488355328 then (if s_0.f_Inputs.length + [a_2].length ≤ mxl ∧ (s_0.f_Inputs.length + [a_2].length) * 16 ≤ 140737488355328 then some (some ⟨s_0.f_Inputs ++ [a_2], upd a_1 (((lkp a_1 s_0.f_Digests).getD ([] : List (List UInt8))) ++ [a_2]) (ens a_1 ([] : List (List UInt8)) s_0.f_Digests)⟩) else none) else none))
def ref04_Log_Note (L_0 : Option O_RLog) (a_1 : List UInt8) (a_2 : List UInt8) : Option (Option O_RLog) := match L_0 with | none => ref04_Log_Note.n a_1 a_2 | some s_0 => ref04_Log_Note.s s_0 a_1 a_2
theorem ref04_Log_Note_ok {p_0 : Value} {L_0 : Option O_RLog} {a_1 : List UInt8} {a_2 : List UInt8} {r : (Option O_RLog)} (hF : ref04_Log_Note L_0 a_1 a_2 = some r) : CallOk Tryz.prog KG 41 [(eqVP p_0), (aggVP [bytesCk 32 a_1]), (strVP a_2)] [(RLog_e p_0 L_0)] (fun _ => [RLog_e p_0 r]) (tupVP []) := by
  refine CallOk.intro 46 Tryz.func41 rfl Tryz.ntmps41 (Nat.le_of_ble_eq_true rfl) ?_
  intro c a w hG hn h
  unfold ref04_Log_Note at hF
  change SatL c [.slot 0 (eqVP p_0), .slot 1 (aggVP [bytesCk 32 a_1]), .slot 2 (strVP a_2), .res (RLog_e p_0 L_0)] a w at h
  obtain ⟨h_0_0, h⟩ := h.ex 3 rfl
  obtain ⟨h_0_1, h⟩ := h.ex 3 rfl
  change SatL c [.slot 0 (eqVP p_0), .slot 1 (aggVP [bytesCk 32 a_1]), .slot 2 (strVP a_2), .res (RLog_o p_0 h_0_0 h_0_1 L_0)] a w at h
  cases L_0 with
  | none =>
    change ref04_Log_Note.n a_1 a_2 = some r at hF
    unfold ref04_Log_Note.n at hF
    obtain rfl := h.isp 3 rfl (fun _ _ _ q => q.2)
    replace h := h.slotc 0 rfl (V' := ptrVP (.pointer none) false) (fun _ _ h => ⟨h, rfl⟩)
    change SatL c [.slot 0 (ptrVP (.pointer none) false), .slot 1 (aggVP [bytesCk 32 a_1]), .slot 2 (strVP a_2), .res (RLog_o (.pointer none) h_0_0 h_0_1 none)] a w at h
    refine regS mixed hn hG h [0, 2, 501, 3, 500] (ob [1] (op_box q0 (cells_agg _)) .nil) fun b1 a w h => ?_
    refine wp_seq ?_
    refine regS mixed hn hG h [0, 1, 2, 500, 3, 4] (ov [0] (op_move q0) <| ov [500] (op_bin (bin_pnil Tryz.underlying72) q0 (opc (ec _))) .nil) fun _ a w h => ?_
    refine cond_L h 3 rfl (fun hb2 => ?_) (fun hb2 => ?_)
    · skip
      replace h := h.sel [4]
      refine wp_ret ?_
      replace h := h.conv 0 rfl RLog_packo
      change SatL c [.res (RLog_e (.pointer none) none)] a w at h
      obtain rfl := Option.some.inj hF
      exact ⟨.inl rfl, retn h (rs := []) (Vs := []) Tryz.results41 (by decide) trivial [0] [(RLog_e (.pointer none) none)] rfl rfl rfl⟩
    · cases hb2
  | some s_0 =>
    change ref04_Log_Note.s s_0 a_1 a_2 = some r at hF
    unfold ref04_Log_Note.s at hF
    have hp := h.isp 3 rfl (fun Φ f w q => RLog_lp Φ f w q)
    replace h := h.slotc 0 rfl (V' := lpVP p_0 0) (fun _ _ h => eq_lp h hp)
    replace h := h.sep (R := lb p_0 134 [one (eqVP h_0_0), one (eqVP h_0_1)]) (S := (RP.sep (acc h_0_0 9 1 strC s_0.f_Inputs) (mapR h_0_1 arrK (fun l => l.length = 32) (fun u y => acc u 9 1 strC y) s_0.f_Digests))) 3 rfl
    replace h := h.sep (R := acc h_0_0 9 1 strC s_0.f_Inputs) (S := (mapR h_0_1 arrK (fun l => l.length = 32) (fun u y => acc u 9 1 strC y) s_0.f_Digests)) 4 rfl
    replace h := h.sub [0, 1, 2, 3, 4, 5] (by rfl)
    change SatL c [.slot 0 (lpVP p_0 0), .slot 1 (aggVP [bytesCk 32 a_1]), .slot 2 (strVP a_2), .res (lb p_0 134 [one (eqVP h_0_0), one (eqVP h_0_1)]), .res (acc h_0_0 9 1 strC s_0.f_Inputs), .res (mapR h_0_1 arrK (fun l => l.length = 32) (fun u y => acc u 9 1 strC y) s_0.f_Digests)] a w at h
    refine regS mixed hn hG h [0, 2, 501, 3, 4, 5, 500] (ob [1] (op_box q0 (cells_agg _)) .nil) fun b3 a w h => ?_
    refine wp_seq ?_
    refine regS mixed hn hG h [0, 1, 2, 500, 3, 4, 5, 6] (ov [0] (op_move q0) <| ov [500] (op_bin (bin_pnil Tryz.underlying72) (lp_ptr q0) (opc (ec _))) .nil) fun _ a w h => ?_
    refine cond_L h 3 rfl (fun hb4 => ?_) (fun hb4 => ?_)
    · cases hb4
    · skip
      replace h := h.sel [0, 1, 2, 4, 5, 6, 7]
      refine wp_skip ?_
      show Code.wp Tryz.prog _ _ a w
      refine wp_seq ?_
      refine regS mixed hn hG h [0, 1, 2, 502, 501, 500, 3, 4, 5, 6] (ov [0] (op_move q0) <| ov [500] (op_nilCheck q0 (ptr_lp _ _)) <| ov [500] (op_fieldAddr_lbm (p := p_0) (n := 1) 0 1 Tryz.underlying134 rfl Tryz.sizeOf132 (by decide) q0 rfl) <| ov [500, 3] (op_load_lb1 [one (eqVP h_0_0)] [] 1 Tryz.isAgg132 q0 rfl rfl) <| ov [2, 6] (op_load_w 1 Tryz.isAgg23 Tryz.sizeOf23 q0) <| ov [501, 500, 5] (op_lookup (slVP strC) [] 2 Tryz.underlying132 (keyArr Tryz.underlying23 Tryz.underlying5 Tryz.type5 Tryz.sizeOf5 Tryz.isAgg5) Tryz.zeroValue75 q0 q1 hk_arr rfl res_id (fun _ _ _ _ _ h => acc_sl h) (fun _ => ⟨by decide, .inl ⟨rfl, rfl⟩⟩)) <| ov [500] (op_len_sl Tryz.underlying75 q0) <| ov [] (op_move qi) .nil) fun _ a w h => ?_
      refine wp_block ?_
      obtain ⟨cr16, hl17, hF⟩ := bind_some hF
      refine wp_mono (wp_loopN (R := (Option O_RLog)) (S := Int) (fun s a w => SatL c [.slot 0 (lpVP p_0 0), .slot 2 (strVP a_2), .slot 4 (lpVP (b3 0) 0), .slot 15 (slVP strC ((lkp a_1 s_0.f_Digests).getD [])), .slot 16 (intVP .i64 (((lkp a_1 s_0.f_Digests).getD []).length : Int)), .slot 17 (intVP .i64 s), .res (lb p_0 134 [one (eqVP h_0_0), one (eqVP h_0_1)]), .res (acc h_0_0 9 1 strC s_0.f_Inputs), .res (mapR h_0_1 arrK (fun l => l.length = 32) (fun u y => acc u 9 1 strC y) s_0.f_Digests), .res (lb (b3 0) 23 [bytesCk 32 a_1])] a w) (fun res e a w => match res with | .next s => e = .exit 0 ∧ SatL c [.slot 0 (lpVP p_0 0), .slot 2 (strVP a_2), .slot 4 (lpVP (b3 0) 0), .res (lb p_0 134 [one (eqVP h_0_0), one (eqVP h_0_1)]), .res (acc h_0_0 9 1 strC s_0.f_Inputs), .res (mapR h_0_1 arrK (fun l => l.length = 32) (fun u y => acc u 9 1 strC y) s_0.f_Digests), .res (lb (b3 0) 23 [bytesCk 32 a_1])] a w | .ret r => e = .ret ∧ RetOk Tryz.prog Tryz.f41 c (tupVP []) (fun _ => [RLog_e p_0 r]) a w) ?_ _ 0 _ _ _ (h.sub [0, 1, 2, 3, 4, 5, 6, 7, 8, 9] (by rfl)) hl17) ?_
      · clear hl17 hF h
        intro x8 a w o h hF
        change ref04_Log_Note.b1 s_0 a_1 a_2 x8 = some o at hF
        unfold ref04_Log_Note.b1 at hF
        change SatL c [.slot 0 (lpVP p_0 0), .slot 2 (strVP a_2), .slot 4 (lpVP (b3 0) 0), .slot 15 (slVP strC ((lkp a_1 s_0.f_Digests).getD [])), .slot 16 (intVP .i64 (((lkp a_1 s_0.f_Digests).getD []).length : Int)), .slot 17 (intVP .i64 x8), .res (lb p_0 134 [one (eqVP h_0_0), one (eqVP h_0_1)]), .res (acc h_0_0 9 1 strC s_0.f_Inputs), .res (mapR h_0_1 arrK (fun l => l.length = 32) (fun u y => acc u 9 1 strC y) s_0.f_Digests), .res (lb (b3 0) 23 [bytesCk 32 a_1])] a w at h
        refine regS mixed hn hG h [0, 1, 2, 3, 4, 5, 500, 6, 7, 8, 9] (ov [5, 4] (op_bin bin_lss q0 q1) .nil) fun _ a w h => ?_
        refine wp_seq ?_
        refine cnd h hF 6 [0, 1, 2, 3, 4, 5, 7, 8, 9, 10] [0, 1, 2, 3, 4, 5, 7, 8, 9, 10] (fun hb13 hF h => ?_) (fun hb13 hF h => ?_)
        · refine wp_skip ?_
          show Code.wp Tryz.prog _ _ a w
          refine wp_seq ?_
          refine wp_block ?_
          obtain ⟨hv14, hF⟩ := ite_some hF
          refine regS mixed hn hG h [0, 1, 2, 500, 3, 4, 5, 6, 7, 8, 9] (ov [3, 5] (op_indexAddr_sl Tryz.underlying75 Tryz.sizeOf9 lens_strC q0 q1 hv14) <| ov [500] (op_load_pp1 [] Tryz.isAgg9 q0) <| ov [500] (op_assign q0) .nil) fun _ a w h => ?_
          refine regS mixed hn hG h [0, 1, 2, 4, 5, 6, 500, 7, 8, 9, 10] (ov [3] (op_move q0) <| ov [1] (op_move q0) <| ov [501, 500] (op_bin bin_seql q0 q1) .nil) fun _ a w h => ?_
          refine cnd h hF 6 [7, 8, 9] [0, 1, 2, 3, 4, 5, 7, 8, 9, 10] (fun hb15 hF h => ?_) (fun hb15 hF h => ?_)
          · refine wp_ret ?_
            replace h := h.unsep 1 2 rfl rfl (by decide)
            replace h := h.unsep 0 1 rfl rfl (by decide)
            replace h := h.conv 0 rfl (R' := RLog_e p_0 (some s_0)) (RLog_packo (v0 := h_0_0) (v1 := h_0_1) (o := (some s_0)))
            replace h := h.sub [0] (by rfl)
            change SatL c [.res (RLog_e p_0 (some s_0))] a w at h
            obtain rfl := Option.some.inj hF
            exact ⟨ret_ne, rfl, retn h (rs := []) (Vs := []) Tryz.results41 (by decide) trivial [0] [(RLog_e p_0 (some s_0))] rfl rfl rfl⟩
          · refine wp_skip ?_
            show Code.wp Tryz.prog _ _ a w
            refine reg mixed hn hG h [0, 1, 2, 3, 4, 500, 6, 7, 8, 9] (ov [5] (op_bin bin_add q0 qi) <| od [500] 5 (op_move q0) .nil) fun _ a w h => ?_
            obtain rfl := Option.some.inj hF
            exact ⟨rfl, h.sub [0, 1, 2, 3, 4, 5, 6, 7, 8, 9] (by rfl)⟩
        · refine wp_exit ?_
          obtain rfl := Option.some.inj hF
          exact ⟨exit_ne _, rfl, h.sub [0, 1, 2, 6, 7, 8, 9] (by rfl)⟩
      · clear hl17
        intro e a w hq
        cases cr16 with
        | ret r18 =>
          obtain ⟨rfl, hq⟩ := hq
          obtain rfl := Option.some.inj hF
          exact ⟨.inl rfl, hq⟩
        | next y20 =>
          obtain ⟨rfl, h⟩ := hq
          change SatL c [.slot 0 (lpVP p_0 0), .slot 2 (strVP a_2), .slot 4 (lpVP (b3 0) 0), .res (lb p_0 134 [one (eqVP h_0_0), one (eqVP h_0_1)]), .res (acc h_0_0 9 1 strC s_0.f_Inputs), .res (mapR h_0_1 arrK (fun l => l.length = 32) (fun u y => acc u 9 1 strC y) s_0.f_Digests), .res (lb (b3 0) 23 [bytesCk 32 a_1])] a w at h
          refine inBlock_at ?_
          show Code.wp Tryz.prog _ _ a w
          obtain ⟨hv21, hF⟩ := ite_some hF
          refine regS mixed hn hG h [0, 1, 3, 4, 500] (ov [0] (op_move q0) <| ov [500] (op_nilCheck q0 (ptr_lp _ _)) <| ov [500] (op_fieldAddr_lbm (p := p_0) (n := 1) 0 1 Tryz.underlying134 rfl Tryz.sizeOf132 (by decide) q0 rfl) <| ov [500, 3] (op_load_lb1 [one (eqVP h_0_0)] [] 1 Tryz.isAgg132 q0 rfl rfl) <| ov [2, 6] (op_load_w 1 Tryz.isAgg23 Tryz.sizeOf23 q0) <| ov [1] (op_move q0) <| ov [500] (op_lit (xs := [.tmp 31]) (ys := [a_2]) _ rfl Tryz.underlying75 Tryz.sizeOf9 Tryz.zeroValue9 rfl rfl (by decide) (by decide) ⟨⟨_, q0, (cells_one (one_str _))⟩, trivial⟩ lens_strC) <| og [503, 502] [5] [.slot 33 7 100000 (fun v1_ _ => (tupVP [(eqVP (tup0 v1_)), (eqVP (tup1 v1_))])), .res 7 100000 (fun v1_ _ => (acc (tup0 v1_) 9 1 strC ((lkp a_1 s_0.f_Digests).getD ([] : List (List UInt8))))), .res 7 100000 (fun v1_ _ => (mapH h_0_1 (tup1 v1_) arrK (fun l => l.length = 32) (fun u y => acc u 9 1 strC y) a_1 (ens a_1 ([] : List (List UInt8)) s_0.f_Digests)))] (GOk.plain (op_mapEntry ([] : List (List UInt8)) Tryz.underlying132 (keyArr Tryz.underlying23 Tryz.underlying5 Tryz.type5 Tryz.sizeOf5 Tryz.isAgg5) Tryz.zeroValue75 q0 q1 hk_arr (fun _ _ => ⟨by decide, .inl ⟨rfl, rfl, rfl⟩⟩)) rfl) <| og [502] [] [.slot 30 7 100000 (fun v1_ _ => (eqVP (tup0 v1_)))] (fun {β} => (GOk.plain (op_extract (V := (eqVP (tup0 (β 7)))) q0 rfl) rfl)) <| og [500, 504] [502] [.slot 34 9 100000 (fun v1_ _ => (eqVP v1_)), .res 9 100000 (fun v1_ _ => (acc (v1_) 9 1 strC (((lkp a_1 s_0.f_Digests).getD ([] : List (List UInt8))) ++ [a_2])))] (GOk.plain (op_append (i := Tryz.t9) Tryz.underlying75 Tryz.type9 rfl lens_strC (by decide) rfl q0 q1 hv21) rfl) <| og [505] [] [.slot 35 7 100000 (fun v1_ _ => (eqVP (tup1 v1_)))] (fun {β} => (GOk.plain (op_extract (V := (eqVP (tup1 (β 7)))) q0 rfl) rfl)) <| og [510, 500, 502] [501, 504] [.base (.res (mapR h_0_1 arrK (fun l => l.length = 32) (fun u y => acc u 9 1 strC y) (upd a_1 (((lkp a_1 s_0.f_Digests).getD ([] : List (List UInt8))) ++ [a_2]) (ens a_1 ([] : List (List UInt8)) s_0.f_Digests))))] (fun {β} => (GOk.plain (op_entryStore (eR := (fun u y => acc u 9 1 strC y)) (u := (β 9)) (n := (((lkp a_1 s_0.f_Digests).getD ([] : List (List UInt8))) ++ [a_2])) q0 q1 q2) rfl)) .nil) fun _ a w h => ?_
          obtain ⟨hv22, hF⟩ := ite_some hF
          refine reg mixed hn hG h [500, 4, 503] (ov [0] (op_move q0) <| ov [0] (op_move q0) <| ov [500] (op_nilCheck q0 (ptr_lp _ _)) <| ov [500] (op_fieldAddr_lbm (p := p_0) (n := 1) 0 0 Tryz.underlying134 rfl Tryz.sizeOf75 (by decide) q0 rfl) <| ov [500, 2] (op_load_lb1 [] [one (eqVP h_0_1)] 1 Tryz.isAgg75 q0 rfl rfl) <| ov [1] (op_move q0) <| ov [500] (op_lit (xs := [.tmp 41]) (ys := [a_2]) _ rfl Tryz.underlying75 Tryz.sizeOf9 Tryz.zeroValue9 rfl rfl (by decide) (by decide) ⟨⟨_, q0, (cells_one (one_str _))⟩, trivial⟩ lens_strC) <| og [502, 500] [3] [.slot 43 7 100000 (fun v1_ _ => (eqVP v1_)), .res 7 100000 (fun v1_ _ => (acc (v1_) 9 1 strC (s_0.f_Inputs ++ [a_2])))] (GOk.plain (op_append (i := Tryz.t9) Tryz.underlying75 Tryz.type9 rfl lens_strC (by decide) rfl q0 q1 hv22) rfl) <| ov [508] (op_nilCheck q0 (ptr_lp _ _)) <| ov [500] (op_fieldAddr_lbm (p := p_0) (n := 1) 0 0 Tryz.underlying134 rfl Tryz.sizeOf75 (by decide) q0 rfl) <| og [500, 503, 502] [2] [.res 7 100000 (fun v1_ _ => (lb p_0 134 [one (eqVP (v1_)), one (eqVP h_0_1)]))] (fun {β} => (GOk.plain (op_store_lb [] [one (eqVP h_0_0)] [one (eqVP h_0_1)] [one (eqVP ((β 7)))] Tryz.sizeOf75 q0 (opone 1 2 rfl rfl acc_one) (cells_h _) rfl rfl rfl) rfl)) .nil) fun b23 a w h => ?_
          replace h := h.unsep 2 1 rfl rfl (by decide)
          replace h := h.unsep 0 2 rfl rfl (by decide)
          replace h := h.conv 0 rfl (R' := RLog_e p_0 (some ⟨s_0.f_Inputs ++ [a_2], upd a_1 (((lkp a_1 s_0.f_Digests).getD ([] : List (List UInt8))) ++ [a_2]) (ens a_1 ([] : List (List UInt8)) s_0.f_Digests)⟩)) (RLog_packo (v0 := (b23 7)) (v1 := h_0_1) (o := (some ⟨s_0.f_Inputs ++ [a_2], upd a_1 (((lkp a_1 s_0.f_Digests).getD ([] : List (List UInt8))) ++ [a_2]) (ens a_1 ([] : List (List UInt8)) s_0.f_Digests)⟩)))
          replace h := h.sub [0] (by rfl)
          change SatL c [.res (RLog_e p_0 (some ⟨s_0.f_Inputs ++ [a_2], upd a_1 (((lkp a_1 s_0.f_Digests).getD ([] : List (List UInt8))) ++ [a_2]) (ens a_1 ([] : List (List UInt8)) s_0.f_Digests)⟩))] a w at h
          obtain rfl := Option.some.inj hF
          exact ⟨.inr rfl, retn h (rs := []) (Vs := []) Tryz.results41 (by decide) trivial [0] [(RLog_e p_0 (some ⟨s_0.f_Inputs ++ [a_2], upd a_1 (((lkp a_1 s_0.f_Digests).getD ([] : List (List UInt8))) ++ [a_2]) (ens a_1 ([] : List (List UInt8)) s_0.f_Digests)⟩))] rfl rfl rfl⟩

def ref04_Log_Of (L_0 : Option O_RLog) (a_1 : Int) (a_2 : List (List UInt8)) : Option ((List UInt8) × (Option O_RLog)) := ((ref04_Input a_1 a_2).bind fun r2 => ((ref01_Sum r2).bind fun r3 => ((ref04_Log_Note L_0 r3 r2).bind fun r5 => some (r3, r5))))
theorem ref04_Log_Of_ok {p_0 : Value} {L_0 : Option O_RLog} {a_1 : Int} {a_2 : List (List UInt8)} {r : (List UInt8) × (Option O_RLog)} (hF : ref04_Log_Of L_0 a_1 a_2 = some r) : CallOk Tryz.prog KG 22 [(eqVP p_0), (intVP .u8 a_1), (slVP strC a_2)] [(RLog_e p_0 L_0)] (fun _ => [RLog_e p_0 r.2]) (aggVP [bytesCk 32 r.1]) := by
  refine CallOk.intro 19 Tryz.func22 rfl Tryz.ntmps22 (Nat.le_of_ble_eq_true rfl) ?_
  intro c a w hG hn h
  unfold ref04_Log_Of at hF
  change SatL c [.slot 0 (eqVP p_0), .slot 1 (intVP .u8 a_1), .slot 2 (slVP strC a_2), .res (RLog_e p_0 L_0)] a w at h
  refine regS mixed hn hG h [0, 1, 2, 501, 3, 500] (ob [] (op_alloc Tryz.zeroValue23 z23) .nil) fun b1 a w h => ?_
  obtain ⟨r2, hr2, hF⟩ := bind_some hF
  refine regS mixed hn hG h [0, 3, 500, 4, 5] (ov [1] (op_move q0) <| ov [2] (op_move q0) <| oc [501, 500] [] Tryz.call39 (ref04_Input_ok hr2) ⟨q0, q1, trivial⟩ <| ov [500] (op_assign q0) .nil) fun _ a w h => ?_
  obtain ⟨r3, hr3, hF⟩ := bind_some hF
  refine regS mixed hn hG h [0, 1, 2, 502, 3, 4, 500] (ov [2] (op_move q0) <| oc [500] [] Tryz.call40 (ref01_Sum_ok hr3) ⟨q0, trivial⟩ <| ob [] (op_alloc Tryz.zeroValue23 z23) <| og [501, 502] [500] [.res 2 100000 (fun v1_ _ => (lb (v1_) 23 [bytesCk 32 r3]))] (GOk.plain (op_store_w Tryz.sizeOf23 q0 q1 (cells_agg _)) rfl) .nil) fun b4 a w h => ?_
  obtain ⟨r5, hr5, hF⟩ := bind_some hF
  refine regS mixed hn hG h [1, 3, 5, 6, 500] (ov [0] (op_move q0) <| ov [3, 6] (op_load_w 1 Tryz.isAgg23 Tryz.sizeOf23 q0) <| ov [2] (op_move q0) <| oc [502, 501, 500] [4] Tryz.call41 (ref04_Log_Note_ok hr5) ⟨q0, q1, q2, trivial⟩ .nil) fun _ a w h => ?_
  refine regS mixed hn hG h [0, 500, 4] (ov [1, 3] (op_load_w 1 Tryz.isAgg23 Tryz.sizeOf23 q0) <| ou [0, 500] 2 (op_store_w Tryz.sizeOf23 q0 q1 (cells_agg _)) .nil) fun _ a w h => ?_
  refine wp_ret ?_
  obtain rfl := Option.some.inj hF
  exact ⟨.inl rfl, ret1 h Tryz.results22 (r_cell 0 1 rfl rfl Tryz.isAgg23 Tryz.sizeOf23 rfl) [2] [(RLog_e p_0 r5)] rfl rfl rfl⟩

def ref09_Plain (a_0 : S_api_Letter) : Option (List UInt8) := ((ref03_Big (IntKind.wrap .u64 a_0.f_From) 4).bind fun r2 => ((ref03_Big (IntKind.wrap .u64 a_0.f_Nonce) 4).bind fun r3 => (if r2.length + r3.length ≤ mxl then ((ref03_Big (IntKind.wrap .u64 a_0.f_To) 4).bind fun r5 => (if (r2 ++ r3).length + r5.length ≤ mxl then ((ref03_Text a_0.f_Sender).bind fun r7 => (if ((r2 ++ r3) ++ r5).length + r7.length ≤ mxl then ((ref03_Text a_0.f_Receiver).bind fun r9 => (if (((r2 ++ r3) ++ r5) ++ r7).length + r9.length ≤ mxl then ((ref03_Text a_0.f_Body).bind fun r11 => (if ((((r2 ++ r3) ++ r5) ++ r7) ++ r9).length + r11.length ≤ mxl then some (((((r2 ++ r3) ++ r5) ++ r7) ++ r9) ++ r11) else none)) else none)) else none)) else none)) else none)))
theorem ref09_Plain_ok {a_0 : S_api_Letter} {r : (List UInt8)} (hF : ref09_Plain a_0 = some r) : CallOk Tryz.prog KG 23 [(aggVP [one (intVP .u32 a_0.f_From), one (intVP .u32 a_0.f_Nonce), one (intVP .u32 a_0.f_To), one (strVP a_0.f_Sender), one (strVP a_0.f_Receiver), one (strVP a_0.f_Body)])] [] (fun _ => []) (strVP r) := by
  refine CallOk.intro 33 Tryz.func23 rfl Tryz.ntmps23 (Nat.le_of_ble_eq_true rfl) ?_
  intro c a w hG hn h
  unfold ref09_Plain at hF
  change SatL c [.slot 0 (aggVP [one (intVP .u32 a_0.f_From), one (intVP .u32 a_0.f_Nonce), one (intVP .u32 a_0.f_To), one (strVP a_0.f_Sender), one (strVP a_0.f_Receiver), one (strVP a_0.f_Body)])] a w at h
  refine regS mixed hn hG h [502, 501] (ob [0] (op_box q0 (cells_agg _)) <| ov [] (op_assign (opc (sc _ (by decide)))) .nil) fun b1 a w h => ?_
  obtain ⟨r2, hr2, hF⟩ := bind_some hF
  refine regS mixed hn hG h [0, 500, 1] (ov [0] (op_fieldAddr_lbm (p := (b1 0)) (n := 1) 0 0 Tryz.underlying44 rfl Tryz.sizeOf31 (by decide) q0 rfl) <| ov [500, 1] (op_load_lb1 [] [one (intVP .u32 a_0.f_Nonce), one (intVP .u32 a_0.f_To), one (strVP a_0.f_Sender), one (strVP a_0.f_Receiver), one (strVP a_0.f_Body)] 1 Tryz.isAgg31 q0 rfl rfl) <| ov [500] (op_convert_int Tryz.underlying31 Tryz.underlying32 q0) <| oc [500] [] Tryz.call42 (ref03_Big_ok hr2) ⟨q0, qi, trivial⟩ <| ov [500] (op_assign q0) .nil) fun _ a w h => ?_
  obtain ⟨r3, hr3, hF⟩ := bind_some hF
  obtain ⟨hv4, hF⟩ := ite_some hF
  refine regS mixed hn hG h [0, 500, 2] (ov [1] (op_move q0) <| ov [0] (op_fieldAddr_lbm (p := (b1 0)) (n := 1) 0 1 Tryz.underlying44 rfl Tryz.sizeOf31 (by decide) q0 rfl) <| ov [500, 2] (op_load_lb1 [one (intVP .u32 a_0.f_From)] [one (intVP .u32 a_0.f_To), one (strVP a_0.f_Sender), one (strVP a_0.f_Receiver), one (strVP a_0.f_Body)] 1 Tryz.isAgg31 q0 rfl rfl) <| ov [500] (op_convert_int Tryz.underlying31 Tryz.underlying32 q0) <| oc [500] [] Tryz.call42 (ref03_Big_ok hr3) ⟨q0, qi, trivial⟩ <| ov [504, 500] (op_bin (bin_sadd hv4) q0 q1) <| od [500] 1 (op_assign q0) .nil) fun _ a w h => ?_
  obtain ⟨r5, hr5, hF⟩ := bind_some hF
  obtain ⟨hv6, hF⟩ := ite_some hF
  refine regS mixed hn hG h [0, 500, 2] (ov [1] (op_move q0) <| ov [0] (op_fieldAddr_lbm (p := (b1 0)) (n := 1) 0 2 Tryz.underlying44 rfl Tryz.sizeOf31 (by decide) q0 rfl) <| ov [500, 2] (op_load_lb1 [one (intVP .u32 a_0.f_From), one (intVP .u32 a_0.f_Nonce)] [one (strVP a_0.f_Sender), one (strVP a_0.f_Receiver), one (strVP a_0.f_Body)] 1 Tryz.isAgg31 q0 rfl rfl) <| ov [500] (op_convert_int Tryz.underlying31 Tryz.underlying32 q0) <| oc [500] [] Tryz.call42 (ref03_Big_ok hr5) ⟨q0, qi, trivial⟩ <| ov [504, 500] (op_bin (bin_sadd hv6) q0 q1) <| od [500] 1 (op_assign q0) .nil) fun _ a w h => ?_
  obtain ⟨r7, hr7, hF⟩ := bind_some hF
  obtain ⟨hv8, hF⟩ := ite_some hF
  obtain ⟨r9, hr9, hF⟩ := bind_some hF
  obtain ⟨hv10, hF⟩ := ite_some hF
  obtain ⟨r11, hr11, hF⟩ := bind_some hF
  obtain ⟨hv12, hF⟩ := ite_some hF
  refine regS mixed hn hG h [500] (ov [1] (op_move q0) <| ov [0] (op_fieldAddr_lbm (p := (b1 0)) (n := 1) 0 3 Tryz.underlying44 rfl Tryz.sizeOf9 (by decide) q0 rfl) <| ov [500, 2] (op_load_lb1 [one (intVP .u32 a_0.f_From), one (intVP .u32 a_0.f_Nonce), one (intVP .u32 a_0.f_To)] [one (strVP a_0.f_Receiver), one (strVP a_0.f_Body)] 1 Tryz.isAgg9 q0 rfl rfl) <| oc [500] [] Tryz.call43 (ref03_Text_ok hr7) ⟨q0, trivial⟩ <| ov [503, 500] (op_bin (bin_sadd hv8) q0 q1) <| ov [0] (op_fieldAddr_lbm (p := (b1 0)) (n := 1) 0 4 Tryz.underlying44 rfl Tryz.sizeOf9 (by decide) q0 rfl) <| ov [500, 2] (op_load_lb1 [one (intVP .u32 a_0.f_From), one (intVP .u32 a_0.f_Nonce), one (intVP .u32 a_0.f_To), one (strVP a_0.f_Sender)] [one (strVP a_0.f_Body)] 1 Tryz.isAgg9 q0 rfl rfl) <| oc [500] [] Tryz.call43 (ref03_Text_ok hr9) ⟨q0, trivial⟩ <| ov [503, 500] (op_bin (bin_sadd hv10) q0 q1) <| ov [0] (op_fieldAddr_lbm (p := (b1 0)) (n := 1) 0 5 Tryz.underlying44 rfl Tryz.sizeOf9 (by decide) q0 rfl) <| ov [500, 2] (op_load_lb1 [one (intVP .u32 a_0.f_From), one (intVP .u32 a_0.f_Nonce), one (intVP .u32 a_0.f_To), one (strVP a_0.f_Sender), one (strVP a_0.f_Receiver)] [] 1 Tryz.isAgg9 q0 rfl rfl) <| oc [500] [] Tryz.call43 (ref03_Text_ok hr11) ⟨q0, trivial⟩ <| ov [503, 500] (op_bin (bin_sadd hv12) q0 q1) <| ov [500] (op_assign q0) .nil) fun _ a w h => ?_
  refine wp_ret ?_
  obtain rfl := Option.some.inj hF
  exact ⟨.inl rfl, ret1 h Tryz.results23 (r_tmp 0 rfl) [] [] rfl rfl rfl⟩

def ref09_Leaf (L_0 : Option O_RLog) (a_1 : S_api_Letter) : Option ((List UInt8) × (Option O_RLog)) := ((ref09_Plain a_1).bind fun r3 => ((ref04_Log_Of L_0 5 [r3]).bind fun r4 => some (r4.1, r4.2)))
theorem ref09_Leaf_ok {p_0 : Value} {L_0 : Option O_RLog} {a_1 : S_api_Letter} {r : (List UInt8) × (Option O_RLog)} (hF : ref09_Leaf L_0 a_1 = some r) : CallOk Tryz.prog KG 9 [(eqVP p_0), (aggVP [one (intVP .u32 a_1.f_From), one (intVP .u32 a_1.f_Nonce), one (intVP .u32 a_1.f_To), one (strVP a_1.f_Sender), one (strVP a_1.f_Receiver), one (strVP a_1.f_Body)])] [(RLog_e p_0 L_0)] (fun _ => [RLog_e p_0 r.2]) (aggVP [bytesCk 32 r.1]) := by
  refine CallOk.intro 10 Tryz.func9 rfl Tryz.ntmps9 (Nat.le_of_ble_eq_true rfl) ?_
  intro c a w hG hn h
  unfold ref09_Leaf at hF
  change SatL c [.slot 0 (eqVP p_0), .slot 1 (aggVP [one (intVP .u32 a_1.f_From), one (intVP .u32 a_1.f_Nonce), one (intVP .u32 a_1.f_To), one (strVP a_1.f_Sender), one (strVP a_1.f_Receiver), one (strVP a_1.f_Body)]), .res (RLog_e p_0 L_0)] a w at h
  refine regS mixed hn hG h [0, 503, 501, 2, 502, 500] (ob [1] (op_box q0 (cells_agg _)) <| ob [] (op_alloc Tryz.zeroValue23 z23) .nil) fun b1 a w h => ?_
  obtain ⟨r3, hr3, hF⟩ := bind_some hF
  obtain ⟨r4, hr4, hF⟩ := bind_some hF
  refine regS mixed hn hG h [2, 500, 501] (ov [0] (op_move q0) <| ov [1, 4] (op_load_w 1 Tryz.isAgg44 Tryz.sizeOf44 q0) <| oc [500] [] Tryz.call23 (ref09_Plain_ok hr3) ⟨q0, trivial⟩ <| ov [500] (op_lit (xs := [.tmp 7]) (ys := [r3]) _ rfl Tryz.underlying75 Tryz.sizeOf9 Tryz.zeroValue9 rfl rfl (by decide) (by decide) ⟨⟨_, q0, (cells_one (one_str _))⟩, trivial⟩ lens_strC) <| oc [503, 500] [3] Tryz.call22 (ref04_Log_Of_ok hr4) ⟨q0, qi, q1, trivial⟩ <| ou [2, 501] 5 (op_store_w Tryz.sizeOf23 q0 q1 (cells_agg _)) .nil) fun _ a w h => ?_
  refine wp_ret ?_
  obtain rfl := Option.some.inj hF
  exact ⟨.inl rfl, ret1 h Tryz.results9 (r_cell 0 1 rfl rfl Tryz.isAgg23 Tryz.sizeOf23 rfl) [2] [(RLog_e p_0 r4.2)] rfl rfl rfl⟩

def lamport_Bit.j1 (a_0 : List UInt8) (a_1 : Int) (x2 : Bool) : Option Int := (if x2 = true then some 0 else (if (0 : Int) ≤ IntKind.wrap .i64 (a_1.tdiv 8) ∧ IntKind.wrap .i64 (a_1.tdiv 8) < 32 then (if (0 : Int) ≤ IntKind.wrap .i64 (7 - (a_1.tmod 8)) then some (bits .and .i64 (IntKind.wrap .i64 (shr .u8 ((a_0.getD (IntKind.wrap .i64 (a_1.tdiv 8)).toNat 0).toNat) (IntKind.wrap .i64 (7 - (a_1.tmod 8))))) 1) else none) else none))
def lamport_Bit (a_0 : List UInt8) (a_1 : Int) : Option Int := (if (decide (a_1 < (0 : Int))) = true then lamport_Bit.j1 a_0 a_1 true else lamport_Bit.j1 a_0 a_1 (decide ((256 : Int) ≤ a_1)))
theorem lamport_Bit_ok {a_0 : List UInt8} {a_1 : Int} {r : Int} (hF : lamport_Bit a_0 a_1 = some r) : CallOk Tryz.prog KG 80 [(aggVP [bytesCk 32 a_0]), (intVP .i64 a_1)] [] (fun _ => []) (intVP .i64 r) := by
  refine CallOk.intro 21 Tryz.func80 rfl Tryz.ntmps80 (Nat.le_of_ble_eq_true rfl) ?_
  intro c a w hG hn h
  unfold lamport_Bit at hF
  change SatL c [.slot 0 (aggVP [bytesCk 32 a_0]), .slot 1 (intVP .i64 a_1)] a w at h
  refine regS mixed hn hG h [1, 502, 501] (ob [0] (op_box q0 (cells_agg _)) <| ov [] (op_assign qi) .nil) fun b1 a w h => ?_
  refine wp_seq ?_
  refine wp_seq ?_
  refine wp_cut (fun a w => ∃ (x2 : Bool), lamport_Bit.j1 a_0 a_1 x2 = some r ∧ SatL c [.slot 1 (intVP .i64 a_1), .slot 2 (lpVP (b1 0) 0), .slot 10 (boolVP x2), .res (lb (b1 0) 23 [bytesCk 32 a_0])] a w) ?_ ?_
  · rcases Bool.eq_false_or_eq_true (decide (a_1 < (0 : Int))) with hb6 | hb6
    · replace hF := tt_of hb6 hF
      refine reg mixed hn hG h [0, 1, 500, 2] (ov [0] (op_move q0) <| ov [500] (op_bin bin_lss q0 qi) <| ov [500] (op_move q0) <| oe [500] [] (GOk.off_v (want := false) hb6 rfl rfl rfl rfl) <| oe [501] [] (GOk.off_v (want := false) hb6 rfl rfl rfl rfl) <| ov [502] (op_pick_t hb6 q0 qb) .nil) fun _ a w h => ?_
      exact ⟨true, hF, h.sub [0, 1, 2, 3] (by rfl)⟩
    · replace hF := ff_of hb6 hF
      refine reg mixed hn hG h [0, 1, 500, 2] (ov [0] (op_move q0) <| ov [500] (op_bin bin_lss q0 qi) <| ov [500] (op_move q0) <| oe [500, 0] [] (GOk.on_eq hb6 rfl rfl rfl (op_move q0)) <| oe [501, 500] [] (GOk.on_eq hb6 rfl rfl rfl (op_bin bin_geq q0 qi)) <| ov [502, 500] (op_pick_f hb6 q0 q1) .nil) fun _ a w h => ?_
      exact ⟨decide ((256 : Int) ≤ a_1), hF, h.sub [0, 1, 2, 3] (by rfl)⟩
  · clear h hF
    rintro a w ⟨x2, hF, h⟩
    unfold lamport_Bit.j1 at hF
    show Code.wp Tryz.prog _ _ a w
    refine cnd h hF 2 [] [0, 1, 3] (fun hb3 hF h => ?_) (fun hb3 hF h => ?_)
    · refine regS mixed hn hG h [500] (ov [] (op_assign qi) .nil) fun _ a w h => ?_
      refine wp_ret ?_
      obtain rfl := Option.some.inj hF
      exact ⟨.inl rfl, ret1 h Tryz.results80 (r_tmp 0 rfl) [] [] rfl rfl rfl⟩
    · refine wp_skip ?_
      show Code.wp Tryz.prog _ _ a w
      obtain ⟨hv4, hF⟩ := ite_some hF
      obtain ⟨hv5, hF⟩ := ite_some hF
      refine regS mixed hn hG h [500] (ov [0] (op_move q0) <| ov [500] (op_bin (bin_quo (by decide)) q0 qi) <| ov [1, 500] (op_indexAddr_lb Tryz.underlying23 Tryz.sizeOf5 q0 q1 hv4) <| ov [500, 2] (op_load_lbB (i := IntKind.wrap .i64 (a_1.tdiv 8)) [] [] 1 Tryz.isAgg5 q0 rfl rfl hv4) <| ov [0] (op_move q0) <| ov [500] (op_bin (bin_rem (by decide)) q0 qi) <| ov [500] (op_bin bin_sub qi q0) <| ov [503, 500] (op_bin (bin_shr hv5) q0 q1) <| ov [500] (op_convert_int Tryz.underlying5 Tryz.underlying3 q0) <| ov [500] (op_bin bin_and q0 qi) <| ov [500] (op_assign q0) .nil) fun _ a w h => ?_
      refine wp_ret ?_
      obtain rfl := Option.some.inj hF
      exact ⟨.inl rfl, ret1 h Tryz.results80 (r_tmp 0 rfl) [] [] rfl rfl rfl⟩

def lamport_Sign.b1 (a_1 : List UInt8) (a_2 : Int) (a_3 : List UInt8) (x25 : Int) (x26 : Option O_Log) (x27 : List (List UInt8)) (x29 : List (List UInt8)) : Option (Flow ((List (List UInt8)) × (List (List UInt8)) × (Option O_Log)) (Int × (Option O_Log) × (List (List UInt8)) × (List (List UInt8)))) := (if (decide (x25 < (32 : Int))) = true then ((lamport_Bit a_3 x25).bind fun r47 => ((lamport_Secret x26 a_1 a_2 x25 r47).bind fun r48 => (if x27.length + [r48.1].length ≤ mxl ∧ (x27.length + [r48.1].length) * 32 ≤ 140737488355328 then ((lamport_Secret r48.2 a_1 a_2 x25 (IntKind.wrap .i64 (1 - r47))).bind fun r51 => ((lamport_Public r51.2 r51.1).bind fun r52 => (if x29.length + [r52.1].length ≤ mxl ∧ (x29.length + [r52.1].length) * 32 ≤ 140737488355328 then some (.cont (IntKind.wrap .i64 (x25 + 1), r52.2, x27 ++ [r48.1], x29 ++ [r52.1])) else none))) else none))) else some (.brk (x25, x26, x27, x29)))
def lamport_Sign (L_0 : Option O_Log) (a_1 : List UInt8) (a_2 : Int) (a_3 : List UInt8) : Option ((List (List UInt8)) × (List (List UInt8)) × (Option O_Log)) := ((loopN (fun s : Int × (Option O_Log) × (List (List UInt8)) × (List (List UInt8)) => lamport_Sign.b1 a_1 a_2 a_3 s.1 s.2.1 s.2.2.1 s.2.2.2) ((32 - 0 : Int).toNat + 2) (0, L_0, [], [])).bind fun cr => match cr with | .ret r => some r | .next (y59, y60, y61, y62) => some (y61, y62, y60))
theorem lamport_Sign_ok {p_0 : Value} {L_0 : Option O_Log} {a_1 : List UInt8} {a_2 : Int} {a_3 : List UInt8} {r : (List (List UInt8)) × (List (List UInt8)) × (Option O_Log)} (hF : lamport_Sign L_0 a_1 a_2 a_3 = some r) : CallOk Tryz.prog KG 64 [(eqVP p_0), (aggVP [bytesCk 32 a_1]), (intVP .i64 a_2), (aggVP [bytesCk 32 a_3])] [(Log_e p_0 L_0)] (fun _ => [Log_e p_0 r.2.2]) (tupVP [(slVP (dC 32) r.1), (slVP (dC 32) r.2.1)]) := by
  refine CallOk.intro 44 Tryz.func64 rfl Tryz.ntmps64 (Nat.le_of_ble_eq_true rfl) ?_
  intro c a w hG hn h
  unfold lamport_Sign at hF
  change SatL c [.slot 0 (eqVP p_0), .slot 1 (aggVP [bytesCk 32 a_1]), .slot 2 (intVP .i64 a_2), .slot 3 (aggVP [bytesCk 32 a_3]), .res (Log_e p_0 L_0)] a w at h
  refine regS mixed hn hG h [0, 2, 505, 503, 4, 504, 502] (ob [1] (op_box q0 (cells_agg _)) <| ob [3] (op_box q0 (cells_agg _)) <| ov [] (op_assign (opc (ec _))) <| ov [] (op_assign (opc (ec _))) .nil) fun b1 a w h => ?_
  refine regS mixed hn hG h [0, 1, 2, 3, 501, 500, 4, 5, 6] (ov [] (op_assign (opc (ec _))) <| ov [] (op_assign (opc (ec _))) .nil) fun _ a w h => ?_
  refine wp_seq ?_
  refine regS mixed hn hG h [0, 1, 2, 3, 4, 5, 500, 6, 7, 8] (ov [] (op_move qi) .nil) fun _ a w h => ?_
  refine wp_block ?_
  obtain ⟨q14, h⟩ : ∃ q14 : Value, SatL c [.slot 0 (eqVP p_0), .slot 2 (intVP .i64 a_2), .slot 5 (lpVP (b1 0) 0), .slot 7 (lpVP (b1 1) 0), .slot 10 (eqVP q14), .slot 11 (eqVP (.slice none 0 0)), .slot 14 (intVP .i64 0), .res (Log_e p_0 L_0), .res (lb (b1 0) 23 [bytesCk 32 a_1]), .res (lb (b1 1) 23 [bytesCk 32 a_3]), .res (acc q14 23 32 (dC 32) [])] a w := ⟨.slice none 0 0, (h.nilacc 23 32 (dC 32)).sub [0, 1, 2, 3, 4, 5, 6, 7, 8, 9, 10] (by rfl)⟩
  obtain ⟨q15, h⟩ : ∃ q15 : Value, SatL c [.slot 0 (eqVP p_0), .slot 2 (intVP .i64 a_2), .slot 5 (lpVP (b1 0) 0), .slot 7 (lpVP (b1 1) 0), .slot 10 (eqVP q14), .slot 11 (eqVP q15), .slot 14 (intVP .i64 0), .res (Log_e p_0 L_0), .res (lb (b1 0) 23 [bytesCk 32 a_1]), .res (lb (b1 1) 23 [bytesCk 32 a_3]), .res (acc q14 23 32 (dC 32) []), .res (acc q15 23 32 (dC 32) [])] a w := ⟨.slice none 0 0, (h.nilacc 23 32 (dC 32)).sub [0, 1, 2, 3, 4, 5, 6, 7, 8, 9, 10, 11] (by rfl)⟩
  obtain ⟨cr55, hl56, hF⟩ := bind_some hF
  refine wp_mono (wp_loopN (R := (List (List UInt8)) × (List (List UInt8)) × (Option O_Log)) (S := Int × (Option O_Log) × (List (List UInt8)) × (List (List UInt8))) (fun s a w => ∃ q28 : Value, ∃ q30 : Value, SatL c [.slot 0 (eqVP p_0), .slot 2 (intVP .i64 a_2), .slot 5 (lpVP (b1 0) 0), .slot 7 (lpVP (b1 1) 0), .slot 10 (eqVP q28), .slot 11 (eqVP q30), .slot 14 (intVP .i64 s.1), .res (Log_e p_0 s.2.1), .res (lb (b1 0) 23 [bytesCk 32 a_1]), .res (lb (b1 1) 23 [bytesCk 32 a_3]), .res (acc q28 23 32 (dC 32) s.2.2.1), .res (acc q30 23 32 (dC 32) s.2.2.2)] a w) (fun res e a w => match res with | .next s => e = .exit 0 ∧ ∃ q28 : Value, ∃ q30 : Value, SatL c [.slot 10 (eqVP q28), .slot 11 (eqVP q30), .res (Log_e p_0 s.2.1), .res (acc q28 23 32 (dC 32) s.2.2.1), .res (acc q30 23 32 (dC 32) s.2.2.2)] a w | .ret r => e = .ret ∧ RetOk Tryz.prog Tryz.f64 c (tupVP [(slVP (dC 32) r.1), (slVP (dC 32) r.2.1)]) (fun _ => [Log_e p_0 r.2.2]) a w) ?_ _ (0, L_0, [], []) _ _ _ ⟨q14, q15, (h.sub [0, 1, 2, 3, 4, 5, 6, 7, 8, 9, 10, 11] (by rfl))⟩ hl56) ?_
  · clear hl56 hF h
    intro s a w o h hF
    obtain ⟨x25, x26, x27, x29⟩ := s
    obtain ⟨q28, q30, h⟩ := h
    change lamport_Sign.b1 a_1 a_2 a_3 x25 x26 x27 x29 = some o at hF
    unfold lamport_Sign.b1 at hF
    change SatL c [.slot 0 (eqVP p_0), .slot 2 (intVP .i64 a_2), .slot 5 (lpVP (b1 0) 0), .slot 7 (lpVP (b1 1) 0), .slot 10 (eqVP q28), .slot 11 (eqVP q30), .slot 14 (intVP .i64 x25), .res (Log_e p_0 x26), .res (lb (b1 0) 23 [bytesCk 32 a_1]), .res (lb (b1 1) 23 [bytesCk 32 a_3]), .res (acc q28 23 32 (dC 32) x27), .res (acc q30 23 32 (dC 32) x29)] a w at h
    refine regS mixed hn hG h [0, 1, 2, 3, 4, 5, 6, 500, 7, 8, 9, 10, 11] (ov [6] (op_bin bin_lss q0 qi) .nil) fun _ a w h => ?_
    refine wp_seq ?_
    refine cnd h hF 7 [0, 1, 2, 3, 4, 5, 6, 8, 9, 10, 11, 12] [0, 1, 2, 3, 4, 5, 6, 8, 9, 10, 11, 12] (fun hb46 hF h => ?_) (fun hb46 hF h => ?_)
    · refine wp_skip ?_
      show Code.wp Tryz.prog _ _ a w
      refine wp_seq ?_
      refine wp_block ?_
      refine regS mixed hn hG h [0, 1, 2, 3, 4, 5, 500, 6, 7, 8, 9, 10, 11] (ov [6] (op_move q0) <| ov [500] (op_assign q0) .nil) fun _ a w h => ?_
      obtain ⟨r47, hr47, hF⟩ := bind_some hF
      refine regS mixed hn hG h [0, 1, 2, 3, 4, 5, 6, 500, 7, 8, 9, 10, 11, 12] (ov [3, 10] (op_load_w 1 Tryz.isAgg23 Tryz.sizeOf23 q0) <| ov [6] (op_move q0) <| oc [501, 500] [] Tryz.call80 (lamport_Bit_ok hr47) ⟨q0, q1, trivial⟩ <| ov [500] (op_assign q0) .nil) fun _ a w h => ?_
      obtain ⟨r48, hr48, hF⟩ := bind_some hF
      obtain ⟨hv49, hF⟩ := ite_some hF
      refine regS mixed hn hG h [0, 1, 2, 3, 500, 5, 6, 7, 8, 10, 11, 13, 504, 501] (ov [4] (op_move q0) <| ov [0] (op_move q0) <| ov [2, 10] (op_load_w 1 Tryz.isAgg23 Tryz.sizeOf23 q0) <| ov [1] (op_move q0) <| ov [6] (op_move q0) <| ov [7] (op_move q0) <| oc [504, 503, 502, 501, 500] [9] Tryz.call35 (lamport_Secret_ok hr48) ⟨q0, q1, q2, q3, (opt 4 rfl), trivial⟩ <| ov [501] (op_lit (xs := [.tmp 26]) (ys := [r48.1]) _ rfl Tryz.underlying27 Tryz.sizeOf23 Tryz.zeroValue23 rfl rfl (by decide) (by decide) ⟨⟨_, q0, (cells_agg _)⟩, trivial⟩ (lens_dC 32)) <| og [508, 500] [12] [.slot 28 8 100000 (fun v1_ _ => (eqVP v1_)), .res 8 100000 (fun v1_ _ => (acc (v1_) 23 32 (dC 32) (x27 ++ [r48.1])))] (GOk.plain (op_append (i := Tryz.t23) Tryz.underlying27 Tryz.type23 rfl (lens_dC 32) (by decide) rfl q0 q1 hv49) rfl) <| og [501] [4] [.slot 10 8 100000 (fun v1_ _ => (eqVP v1_))] (fun {β} => (GOk.drop _ (GOk.plain (op_assign (V := (eqVP (β 8))) q0) rfl))) .nil) fun b50 a w h => ?_
      obtain ⟨r51, hr51, hF⟩ := bind_some hF
      obtain ⟨r52, hr52, hF⟩ := bind_some hF
      obtain ⟨hv53, hF⟩ := ite_some hF
      refine reg mixed hn hG h [0, 1, 2, 3, 4, 500, 8, 9, 10, 13, 504, 501] (ov [5] (op_move q0) <| ov [0] (op_move q0) <| ov [0] (op_move q0) <| ov [2, 9] (op_load_w 1 Tryz.isAgg23 Tryz.sizeOf23 q0) <| ov [1] (op_move q0) <| ov [6] (op_move q0) <| ov [7] (op_move q0) <| ov [500] (op_bin bin_sub qi q0) <| oc [505, 504, 503, 502, 500] [12] Tryz.call35 (lamport_Secret_ok hr51) ⟨q0, q1, q2, q3, (opt 4 rfl), trivial⟩ <| oc [508, 501] [500] Tryz.call34 (lamport_Public_ok hr52) ⟨q0, q1, trivial⟩ <| ov [501] (op_lit (xs := [.tmp 38]) (ys := [r52.1]) _ rfl Tryz.underlying27 Tryz.sizeOf23 Tryz.zeroValue23 rfl rfl (by decide) (by decide) ⟨⟨_, q0, (cells_agg _)⟩, trivial⟩ (lens_dC 32)) <| og [512, 500] [11] [.slot 40 11 100000 (fun v1_ _ => (eqVP v1_)), .res 11 100000 (fun v1_ _ => (acc (v1_) 23 32 (dC 32) (x29 ++ [r52.1])))] (GOk.plain (op_append (i := Tryz.t23) Tryz.underlying27 Tryz.type23 rfl (lens_dC 32) (by decide) rfl q0 q1 hv53) rfl) <| og [501] [5] [.slot 11 11 100000 (fun v1_ _ => (eqVP v1_))] (fun {β} => (GOk.drop _ (GOk.plain (op_assign (V := (eqVP (β 11))) q0) rfl))) .nil) fun b54 a w h => ?_
      show Code.wp Tryz.prog _ _ a w
      refine reg mixed hn hG h [0, 1, 2, 3, 4, 5, 500, 7, 8, 9, 10, 11] (ov [6] (op_bin bin_add q0 qi) <| od [500] 6 (op_move q0) .nil) fun _ a w h => ?_
      obtain rfl := Option.some.inj hF
      exact ⟨rfl, (b50 8), (b54 11), h.sub [0, 1, 2, 3, 4, 5, 6, 10, 7, 8, 9, 11] (by rfl)⟩
    · refine wp_exit ?_
      obtain rfl := Option.some.inj hF
      exact ⟨exit_ne _, rfl, q28, q30, h.sub [4, 5, 7, 10, 11] (by rfl)⟩
  · clear hl56
    intro e a w hq
    cases cr55 with
    | ret r57 =>
      obtain ⟨rfl, hq⟩ := hq
      obtain rfl := Option.some.inj hF
      exact ⟨.inl rfl, hq⟩
    | next s58 =>
      obtain ⟨y59, y60, y61, y62⟩ := s58
      obtain ⟨rfl, q28, q30, h⟩ := hq
      change SatL c [.slot 10 (eqVP q28), .slot 11 (eqVP q30), .res (Log_e p_0 y60), .res (acc q28 23 32 (dC 32) y61), .res (acc q30 23 32 (dC 32) y62)] a w at h
      refine inBlock_at ?_
      show Code.wp Tryz.prog _ _ a w
      refine regS mixed hn hG h [501, 500, 2, 3, 4] (ov [0] (op_move q0) <| ov [1] (op_move q0) <| ov [501] (op_assign q0) <| ov [501] (op_assign q0) .nil) fun _ a w h => ?_
      refine wp_ret ?_
      obtain rfl := Option.some.inj hF
      exact ⟨.inl rfl, retn h (rs := [.tmp 8, .tmp 9]) (Vs := [(slVP (dC 32) y61), (slVP (dC 32) y62)]) Tryz.results64 (by decide) ⟨(r_acc 0 3 rfl rfl), (r_acc 1 4 rfl rfl), trivial⟩ [2] [(Log_e p_0 y60)] rfl rfl rfl⟩

def keys_Signer_path.b1 (x14 : Int) (x15 : List (List UInt8)) (x16 : Option O_Log) (x17 : List (List UInt8)) : Option (Flow ((List (List UInt8)) × (Option O_Log)) (Int × (List (List UInt8)) × (Option O_Log) × (List (List UInt8)))) := (if (decide ((1 : Int) < (x15.length : Int))) = true then (if (0 : Int) ≤ bits .xor .i64 x14 1 ∧ bits .xor .i64 x14 1 < x15.length then (if x17.length + [x15.getD (bits .xor .i64 x14 1).toNat default].length ≤ mxl ∧ (x17.length + [x15.getD (bits .xor .i64 x14 1).toNat default].length) * 32 ≤ 140737488355328 then ((keys_up x16 x15).bind fun r33 => some (.cont (IntKind.wrap .i64 (x14.tdiv 2), r33.1, r33.2, x17 ++ [x15.getD (bits .xor .i64 x14 1).toNat default]))) else none) else none) else some (.brk (x14, x15, x16, x17)))
def keys_Signer_path (a_0 : S_keys_Signer) (L_1 : Option O_Log) (a_2 : Int) : Option ((List (List UInt8)) × (Option O_Log)) := ((loopN (fun s : Int × (List (List UInt8)) × (Option O_Log) × (List (List UInt8)) => keys_Signer_path.b1 s.1 s.2.1 s.2.2.1 s.2.2.2) (((a_0.f_Leaves.length : Int) - 1 : Int).toNat + 2) (a_2, a_0.f_Leaves, L_1, [])).bind fun cr => match cr with | .ret r => some r | .next (y38, y39, y40, y41) => some (y41, y40))
theorem keys_Signer_path_ok {p_1 : Value} {a_0 : S_keys_Signer} {L_1 : Option O_Log} {a_2 : Int} {r : (List (List UInt8)) × (Option O_Log)} (hF : keys_Signer_path a_0 L_1 a_2 = some r) : CallOk Tryz.prog KG 65 [(aggVP [bytesCk 32 a_0.f_Seed, one (intVP .i64 a_0.f_Next), one (slVP (dC 32) a_0.f_Leaves)]), (eqVP p_1), (intVP .i64 a_2)] [(Log_e p_1 L_1)] (fun _ => [Log_e p_1 r.2]) (slVP (dC 32) r.1) := by
  refine CallOk.intro 28 Tryz.func65 rfl Tryz.ntmps65 (Nat.le_of_ble_eq_true rfl) ?_
  intro c a w hG hn h
  unfold keys_Signer_path at hF
  change SatL c [.slot 0 (aggVP [bytesCk 32 a_0.f_Seed, one (intVP .i64 a_0.f_Next), one (slVP (dC 32) a_0.f_Leaves)]), .slot 1 (eqVP p_1), .slot 2 (intVP .i64 a_2), .res (Log_e p_1 L_1)] a w at h
  refine regS mixed hn hG h [1, 2, 502, 3, 501] (ob [0] (op_box q0 (cells_agg _)) <| ov [] (op_assign (opc (ec _))) .nil) fun b1 a w h => ?_
  refine regS mixed hn hG h [0, 1, 2, 500, 3, 4] (ov [] (op_assign (opc (ec _))) .nil) fun _ a w h => ?_
  refine regS mixed hn hG h [0, 1, 3, 500, 4] (ov [2] (op_fieldAddr_lbm (p := (b1 0)) (n := 1) 0 33 Tryz.underlying29 rfl Tryz.sizeOf27 (by decide) q0 rfl) <| ov [500, 5] (op_load_lb1 [bytesCk 32 a_0.f_Seed, one (intVP .i64 a_0.f_Next)] [] 1 Tryz.isAgg27 q0 rfl rfl) <| ov [500] (op_assign q0) .nil) fun _ a w h => ?_
  refine wp_seq ?_
  refine wp_block ?_
  obtain ⟨q8, h⟩ : ∃ q8 : Value, SatL c [.slot 1 (eqVP p_1), .slot 2 (intVP .i64 a_2), .slot 7 (eqVP q8), .slot 8 (slVP (dC 32) a_0.f_Leaves), .res (Log_e p_1 L_1), .res (acc q8 23 32 (dC 32) [])] a w := ⟨.slice none 0 0, (h.nilacc 23 32 (dC 32)).sub [0, 1, 2, 3, 4, 5] (by rfl)⟩
  obtain ⟨cr34, hl35, hF⟩ := bind_some hF
  refine wp_mono (wp_loopN (R := (List (List UInt8)) × (Option O_Log)) (S := Int × (List (List UInt8)) × (Option O_Log) × (List (List UInt8))) (fun s a w => ∃ q18 : Value, SatL c [.slot 1 (eqVP p_1), .slot 2 (intVP .i64 s.1), .slot 7 (eqVP q18), .slot 8 (slVP (dC 32) s.2.1), .res (Log_e p_1 s.2.2.1), .res (acc q18 23 32 (dC 32) s.2.2.2)] a w) (fun res e a w => match res with | .next s => e = .exit 0 ∧ ∃ q18 : Value, SatL c [.slot 7 (eqVP q18), .res (Log_e p_1 s.2.2.1), .res (acc q18 23 32 (dC 32) s.2.2.2)] a w | .ret r => e = .ret ∧ RetOk Tryz.prog Tryz.f65 c (slVP (dC 32) r.1) (fun _ => [Log_e p_1 r.2]) a w) ?_ _ (a_2, a_0.f_Leaves, L_1, []) _ _ _ ⟨q8, (h.sub [0, 1, 2, 3, 4, 5] (by rfl))⟩ hl35) ?_
  · clear hl35 hF h
    intro s a w o h hF
    obtain ⟨x14, x15, x16, x17⟩ := s
    obtain ⟨q18, h⟩ := h
    change keys_Signer_path.b1 x14 x15 x16 x17 = some o at hF
    unfold keys_Signer_path.b1 at hF
    change SatL c [.slot 1 (eqVP p_1), .slot 2 (intVP .i64 x14), .slot 7 (eqVP q18), .slot 8 (slVP (dC 32) x15), .res (Log_e p_1 x16), .res (acc q18 23 32 (dC 32) x17)] a w at h
    refine wp_seq ?_
    refine regS mixed hn hG h [0, 1, 2, 3, 500, 4, 5] (ov [3] (op_move q0) <| ov [500] (op_len_sl Tryz.underlying27 q0) <| ov [500] (op_bin bin_gtr q0 qi) .nil) fun _ a w h => ?_
    refine cnd h hF 4 [0, 1, 2, 3, 5, 6] [0, 1, 2, 3, 5, 6] (fun hb29 hF h => ?_) (fun hb29 hF h => ?_)
    · refine wp_skip ?_
      show Code.wp Tryz.prog _ _ a w
      refine wp_block ?_
      obtain ⟨hv30, hF⟩ := ite_some hF
      obtain ⟨hv31, hF⟩ := ite_some hF
      refine regS mixed hn hG h [0, 1, 500, 3, 4, 501] (ov [2] (op_move q0) <| ov [3] (op_move q0) <| ov [1] (op_move q0) <| ov [500] (op_bin bin_xor q0 qi) <| ov [502, 500] (op_indexAddr_sl Tryz.underlying27 Tryz.sizeOf23 (lens_dC 32) q0 q1 hv30) <| ov [500] (op_load_pp [bytesCk 32 (x15.getD (bits .xor .i64 x14 1).toNat default)] [] Tryz.isAgg23 Tryz.sizeOf23 q0 rfl) <| ov [500] (op_lit (xs := [.tmp 19]) (ys := [x15.getD (bits .xor .i64 x14 1).toNat default]) _ rfl Tryz.underlying27 Tryz.sizeOf23 Tryz.zeroValue23 rfl rfl (by decide) (by decide) ⟨⟨_, q0, (cells_agg _)⟩, trivial⟩ (lens_dC 32)) <| og [506, 500] [5] [.slot 21 7 100000 (fun v1_ _ => (eqVP v1_)), .res 7 100000 (fun v1_ _ => (acc (v1_) 23 32 (dC 32) (x17 ++ [x15.getD (bits .xor .i64 x14 1).toNat default])))] (GOk.plain (op_append (i := Tryz.t23) Tryz.underlying27 Tryz.type23 rfl (lens_dC 32) (by decide) rfl q0 q1 hv31) rfl) <| og [501] [2] [.slot 7 7 100000 (fun v1_ _ => (eqVP v1_))] (fun {β} => (GOk.drop _ (GOk.plain (op_assign (V := (eqVP (β 7))) q0) rfl))) .nil) fun b32 a w h => ?_
      obtain ⟨r33, hr33, hF⟩ := bind_some hF
      refine reg mixed hn hG h [0, 500, 2, 501, 5, 504] (ov [0] (op_move q0) <| ov [3] (op_move q0) <| oc [501, 500] [4] Tryz.call19 (keys_up_ok hr33) ⟨q0, q1, trivial⟩ <| ov [1] (op_move q0) <| ov [500] (op_bin (bin_quo (by decide)) q0 qi) <| od [503] 3 (op_assign q0) <| od [501] 1 (op_assign q0) .nil) fun _ a w h => ?_
      obtain rfl := Option.some.inj hF
      exact ⟨rfl, (b32 7), h.sub [0, 1, 2, 3, 5, 4] (by rfl)⟩
    · refine wp_exit ?_
      obtain rfl := Option.some.inj hF
      exact ⟨exit_ne _, rfl, q18, h.sub [2, 4, 5] (by rfl)⟩
  · clear hl35
    intro e a w hq
    cases cr34 with
    | ret r36 =>
      obtain ⟨rfl, hq⟩ := hq
      obtain rfl := Option.some.inj hF
      exact ⟨.inl rfl, hq⟩
    | next s37 =>
      obtain ⟨y38, y39, y40, y41⟩ := s37
      obtain ⟨rfl, q18, h⟩ := hq
      change SatL c [.slot 7 (eqVP q18), .res (Log_e p_1 y40), .res (acc q18 23 32 (dC 32) y41)] a w at h
      refine inBlock_at ?_
      show Code.wp Tryz.prog _ _ a w
      refine regS mixed hn hG h [500, 1, 2] (ov [0] (op_move q0) <| ov [500] (op_assign q0) .nil) fun _ a w h => ?_
      refine wp_ret ?_
      obtain rfl := Option.some.inj hF
      exact ⟨.inl rfl, ret1 h Tryz.results65 (r_acc 0 2 rfl rfl) [1] [(Log_e p_1 y40)] rfl rfl rfl⟩

def keys_Signer_Again.j1 (a_0 : S_keys_Signer) (L_1 : Option O_Log) (a_2 : Int) (a_3 : List UInt8) (x4 : Bool) : Option (S_api_Sig × Int × (Option O_Log)) := (if x4 = true then some ((S_api_Sig.mk (0 : Int) [] [] []), 2, L_1) else ((lamport_Sign L_1 a_0.f_Seed a_2 a_3).bind fun r6 => ((keys_Signer_path a_0 r6.2.2 a_2).bind fun r7 => some ((S_api_Sig.mk a_2 r6.1 r6.2.1 r7.1), 0, r7.2))))
def keys_Signer_Again (a_0 : S_keys_Signer) (L_1 : Option O_Log) (a_2 : Int) (a_3 : List UInt8) : Option (S_api_Sig × Int × (Option O_Log)) := (if (!decide ((a_0.f_Leaves.length : Int) = (16 : Int))) = true then keys_Signer_Again.j1 a_0 L_1 a_2 a_3 true else (if (decide (a_2 < (0 : Int))) = true then keys_Signer_Again.j1 a_0 L_1 a_2 a_3 true else keys_Signer_Again.j1 a_0 L_1 a_2 a_3 (decide ((16 : Int) ≤ a_2))))
theorem keys_Signer_Again_ok {p_1 : Value} {a_0 : S_keys_Signer} {L_1 : Option O_Log} {a_2 : Int} {a_3 : List UInt8} {r : S_api_Sig × Int × (Option O_Log)} (hF : keys_Signer_Again a_0 L_1 a_2 a_3 = some r) : CallOk Tryz.prog KG 44 [(aggVP [bytesCk 32 a_0.f_Seed, one (intVP .i64 a_0.f_Next), one (slVP (dC 32) a_0.f_Leaves)]), (eqVP p_1), (intVP .i64 a_2), (aggVP [bytesCk 32 a_3])] [(Log_e p_1 L_1)] (fun _ => [Log_e p_1 r.2.2]) (tupVP [(aggVP [one (intVP .i64 r.1.f_Index), one (slVP (dC 32) r.1.f_Parts), one (slVP (dC 32) r.1.f_Others), one (slVP (dC 32) r.1.f_Path)]), (intVP .i64 r.2.1)]) := by
  refine CallOk.intro 42 Tryz.func44 rfl Tryz.ntmps44 (Nat.le_of_ble_eq_true rfl) ?_
  intro c a w hG hn h
  unfold keys_Signer_Again at hF
  change SatL c [.slot 0 (aggVP [bytesCk 32 a_0.f_Seed, one (intVP .i64 a_0.f_Next), one (slVP (dC 32) a_0.f_Leaves)]), .slot 1 (eqVP p_1), .slot 2 (intVP .i64 a_2), .slot 3 (aggVP [bytesCk 32 a_3]), .res (Log_e p_1 L_1)] a w at h
  refine regS mixed hn hG h [1, 2, 506, 504, 502, 4, 505, 503, 501] (ob [0] (op_box q0 (cells_agg _)) <| ob [3] (op_box q0 (cells_agg _)) <| ob [] (op_alloc Tryz.zeroValue46 z46) <| ov [] (op_assign qi) .nil) fun b1 a w h => ?_
  refine wp_seq ?_
  refine wp_seq ?_
  refine wp_cut (fun a w => ∃ (x4 : Bool), keys_Signer_Again.j1 a_0 L_1 a_2 a_3 x4 = some r ∧ SatL c [.slot 1 (eqVP p_1), .slot 2 (intVP .i64 a_2), .slot 4 (lpVP (b1 0) 0), .slot 7 (lpVP (b1 1) 0), .slot 8 (lpVP (b1 2) 0), .slot 23 (boolVP x4), .res (Log_e p_1 L_1), .res (lb (b1 0) 29 [bytesCk 32 a_0.f_Seed, one (intVP .i64 a_0.f_Next), one (slVP (dC 32) a_0.f_Leaves)]), .res (lb (b1 1) 23 [bytesCk 32 a_3]), .res (lb (b1 2) 46 [one (intVP .i64 ((S_api_Sig.mk (0 : Int) [] [] []).f_Index)), one (slVP (dC 32) ((S_api_Sig.mk (0 : Int) [] [] []).f_Parts)), one (slVP (dC 32) ((S_api_Sig.mk (0 : Int) [] [] []).f_Others)), one (slVP (dC 32) ((S_api_Sig.mk (0 : Int) [] [] []).f_Path))])] a w) ?_ ?_
  · rcases Bool.eq_false_or_eq_true (!decide ((a_0.f_Leaves.length : Int) = (16 : Int))) with hb8 | hb8
    · replace hF := tt_of hb8 hF
      refine reg mixed hn hG h [0, 1, 2, 3, 4, 500, 5, 6, 7, 8] (ov [2] (op_fieldAddr_lbm (p := (b1 0)) (n := 1) 0 33 Tryz.underlying29 rfl Tryz.sizeOf27 (by decide) q0 rfl) <| ov [500, 6] (op_load_lb1 [bytesCk 32 a_0.f_Seed, one (intVP .i64 a_0.f_Next)] [] 1 Tryz.isAgg27 q0 rfl rfl) <| ov [500] (op_len_sl Tryz.underlying27 q0) <| ov [500] (op_bin bin_neq q0 qi) <| ov [500] (op_move q0) <| oe [500] [] (GOk.off_v (want := false) hb8 rfl rfl rfl rfl) <| oe [501] [] (GOk.off_v (want := false) hb8 rfl rfl rfl rfl) <| ov [502] (op_pick_t hb8 q0 qb) <| ov [500] (op_move q0) <| oe [500] [] (GOk.off_v (want := false) rfl rfl rfl rfl rfl) <| oe [501] [] (GOk.off_v (want := false) rfl rfl rfl rfl rfl) <| ov [502] (op_pick_t rfl q0 qb) .nil) fun _ a w h => ?_
      exact ⟨true, hF, h.sub [0, 1, 2, 3, 4, 5, 6, 7, 8, 9] (by rfl)⟩
    · replace hF := ff_of hb8 hF
      rcases Bool.eq_false_or_eq_true (decide (a_2 < (0 : Int))) with hb9 | hb9
      · replace hF := tt_of hb9 hF
        refine reg mixed hn hG h [0, 1, 2, 3, 4, 500, 5, 6, 7, 8] (ov [2] (op_fieldAddr_lbm (p := (b1 0)) (n := 1) 0 33 Tryz.underlying29 rfl Tryz.sizeOf27 (by decide) q0 rfl) <| ov [500, 6] (op_load_lb1 [bytesCk 32 a_0.f_Seed, one (intVP .i64 a_0.f_Next)] [] 1 Tryz.isAgg27 q0 rfl rfl) <| ov [500] (op_len_sl Tryz.underlying27 q0) <| ov [500] (op_bin bin_neq q0 qi) <| ov [500] (op_move q0) <| oe [500, 1] [] (GOk.on_eq hb8 rfl rfl rfl (op_move q0)) <| oe [501, 500] [] (GOk.on_eq hb8 rfl rfl rfl (op_bin bin_lss q0 qi)) <| ov [502, 500] (op_pick_f hb8 q0 q1) <| ov [500] (op_move q0) <| oe [500] [] (GOk.off_v (want := false) hb9 rfl rfl rfl rfl) <| oe [501] [] (GOk.off_v (want := false) hb9 rfl rfl rfl rfl) <| ov [502] (op_pick_t hb9 q0 qb) .nil) fun _ a w h => ?_
        exact ⟨true, hF, h.sub [0, 1, 2, 3, 4, 5, 6, 7, 8, 9] (by rfl)⟩
      · replace hF := ff_of hb9 hF
        refine reg mixed hn hG h [0, 1, 2, 3, 4, 500, 5, 6, 7, 8] (ov [2] (op_fieldAddr_lbm (p := (b1 0)) (n := 1) 0 33 Tryz.underlying29 rfl Tryz.sizeOf27 (by decide) q0 rfl) <| ov [500, 6] (op_load_lb1 [bytesCk 32 a_0.f_Seed, one (intVP .i64 a_0.f_Next)] [] 1 Tryz.isAgg27 q0 rfl rfl) <| ov [500] (op_len_sl Tryz.underlying27 q0) <| ov [500] (op_bin bin_neq q0 qi) <| ov [500] (op_move q0) <| oe [500, 1] [] (GOk.on_eq hb8 rfl rfl rfl (op_move q0)) <| oe [501, 500] [] (GOk.on_eq hb8 rfl rfl rfl (op_bin bin_lss q0 qi)) <| ov [502, 500] (op_pick_f hb8 q0 q1) <| ov [500] (op_move q0) <| oe [500, 1] [] (GOk.on_eq hb9 rfl rfl rfl (op_move q0)) <| oe [501, 500] [] (GOk.on_eq hb9 rfl rfl rfl (op_bin bin_geq q0 qi)) <| ov [502, 500] (op_pick_f hb9 q0 q1) .nil) fun _ a w h => ?_
        exact ⟨decide ((16 : Int) ≤ a_2), hF, h.sub [0, 1, 2, 3, 4, 5, 6, 7, 8, 9] (by rfl)⟩
  · clear h hF
    rintro a w ⟨x4, hF, h⟩
    unfold keys_Signer_Again.j1 at hF
    show Code.wp Tryz.prog _ _ a w
    refine cnd h hF 5 [4, 6, 9] [0, 1, 2, 3, 4, 6, 7, 8, 9] (fun hb5 hF h => ?_) (fun hb5 hF h => ?_)
    · refine regS mixed hn hG h [0, 500, 1, 501] (ov [] (op_build [] rfl bu46 z46 rfl) <| ou [0, 500] 2 (op_store_w Tryz.sizeOf46 q0 q1 (cells_agg _)) <| ov [] (op_assign qi) .nil) fun _ a w h => ?_
      refine wp_ret ?_
      obtain rfl := Option.some.inj hF
      exact ⟨.inl rfl, retn h (rs := [.cell 8 46, .tmp 9]) (Vs := [(aggVP [one (intVP .i64 (0 : Int)), one (slVP (dC 32) []), one (slVP (dC 32) []), one (slVP (dC 32) [])]), (intVP .i64 2)]) Tryz.results44 (by decide) ⟨(r_cell 0 3 rfl rfl Tryz.isAgg46 Tryz.sizeOf46 rfl), (r_tmp 1 rfl), trivial⟩ [2] [(Log_e p_1 L_1)] rfl rfl rfl⟩
    · refine wp_skip ?_
      show Code.wp Tryz.prog _ _ a w
      obtain ⟨r6, hr6, hF⟩ := bind_some hF
      refine regS mixed hn hG h [0, 1, 2, 4, 501, 500, 6, 8, 505] (ov [0] (op_move q0) <| ov [2] (op_fieldAddr_lbm (p := (b1 0)) (n := 32) 0 0 Tryz.underlying29 rfl Tryz.sizeOf23 (by decide) q0 rfl) <| ov [500, 6] (op_load_lb [] [bytesCk 32 a_0.f_Seed] [one (intVP .i64 a_0.f_Next), one (slVP (dC 32) a_0.f_Leaves)] 1 Tryz.isAgg23 Tryz.sizeOf23 q0 rfl rfl rfl) <| ov [1] (op_move q0) <| ov [3, 7] (op_load_w 1 Tryz.isAgg23 Tryz.sizeOf23 q0) <| oc [504, 502, 501, 500] [5] Tryz.call64 (lamport_Sign_ok hr6) ⟨q0, q1, q2, q3, trivial⟩ <| ov [501] (op_move q0) <| ov [500] (op_extract q0 rfl) <| ov [501] (op_extract q0 rfl) <| ov [501] (op_assign q0) <| ov [501] (op_assign q0) .nil) fun _ a w h => ?_
      obtain ⟨r7, hr7, hF⟩ := bind_some hF
      refine regS mixed hn hG h [3, 500, 501, 503] (ov [1] (op_move q0) <| ov [4] (op_move q0) <| ov [5] (op_move q0) <| ov [2, 6] (op_load_w 1 Tryz.isAgg29 Tryz.sizeOf29 q0) <| ov [0] (op_move q0) <| ov [1] (op_move q0) <| oc [502, 501, 500] [8] Tryz.call65 (keys_Signer_path_ok hr7) ⟨q0, q1, q2, trivial⟩ <| ov [507, 506, 505, 501] (op_build [(0, .tmp 34), (1, .tmp 35), (2, .tmp 36), (3, .tmp 40)] rfl bu46 z46 ⟨[], [one (intVP .i64 (0 : Int))], [one (slVP (dC 32) []), one (slVP (dC 32) []), one (slVP (dC 32) [])], [one (intVP .i64 a_2)], _, rfl, rfl, rfl, q0, (cells_one (one_int _ _)), ⟨[one (intVP .i64 a_2)], [one (slVP (dC 32) [])], [one (slVP (dC 32) []), one (slVP (dC 32) [])], [one (slVP (dC 32) r6.1)], _, rfl, rfl, rfl, q1, (cells_one (one_sl _ _)), ⟨[one (intVP .i64 a_2), one (slVP (dC 32) r6.1)], [one (slVP (dC 32) [])], [one (slVP (dC 32) [])], [one (slVP (dC 32) r6.2.1)], _, rfl, rfl, rfl, q2, (cells_one (one_sl _ _)), ⟨[one (intVP .i64 a_2), one (slVP (dC 32) r6.1), one (slVP (dC 32) r6.2.1)], [one (slVP (dC 32) [])], [], [one (slVP (dC 32) r7.1)], _, rfl, rfl, rfl, q3, (cells_one (one_sl _ _)), rfl⟩⟩⟩⟩) <| ou [3, 500] 7 (op_store_w Tryz.sizeOf46 q0 q1 (cells_agg _)) <| ov [] (op_assign qi) .nil) fun _ a w h => ?_
      refine wp_ret ?_
      obtain rfl := Option.some.inj hF
      exact ⟨.inl rfl, retn h (rs := [.cell 8 46, .tmp 9]) (Vs := [(aggVP [one (intVP .i64 a_2), one (slVP (dC 32) r6.1), one (slVP (dC 32) r6.2.1), one (slVP (dC 32) r7.1)]), (intVP .i64 0)]) Tryz.results44 (by decide) ⟨(r_cell 0 2 rfl rfl Tryz.isAgg46 Tryz.sizeOf46 rfl), (r_tmp 1 rfl), trivial⟩ [3] [(Log_e p_1 r7.2)] rfl rfl rfl⟩

def keys_Signer_Sign.j1 (a_0 : S_keys_Signer) (L_1 : Option O_Log) (a_2 : List UInt8) (x5 : Bool) : Option (S_keys_Signer × S_api_Sig × Int × (Option O_Log)) := (if x5 = true then some (a_0, (S_api_Sig.mk (0 : Int) [] [] []), 22, L_1) else ((keys_Signer_Again a_0 L_1 a_0.f_Next a_2).bind fun r7 => (if (!decide (r7.2.1 = (0 : Int))) = true then some (a_0, (S_api_Sig.mk (0 : Int) [] [] []), r7.2.1, r7.2.2) else ((slices_Clone_api_Digest a_0.f_Leaves).bind fun r10 => some ((S_keys_Signer.mk a_0.f_Seed (IntKind.wrap .i64 (a_0.f_Next + 1)) r10), r7.1, 0, r7.2.2)))))
def keys_Signer_Sign (a_0 : S_keys_Signer) (L_1 : Option O_Log) (a_2 : List UInt8) : Option (S_keys_Signer × S_api_Sig × Int × (Option O_Log)) := (if (decide (a_0.f_Next < (0 : Int))) = true then keys_Signer_Sign.j1 a_0 L_1 a_2 true else keys_Signer_Sign.j1 a_0 L_1 a_2 (decide ((16 : Int) ≤ a_0.f_Next)))
theorem keys_Signer_Sign_ok {p_1 : Value} {a_0 : S_keys_Signer} {L_1 : Option O_Log} {a_2 : List UInt8} {r : S_keys_Signer × S_api_Sig × Int × (Option O_Log)} (hF : keys_Signer_Sign a_0 L_1 a_2 = some r) : CallOk Tryz.prog KG 24 [(aggVP [bytesCk 32 a_0.f_Seed, one (intVP .i64 a_0.f_Next), one (slVP (dC 32) a_0.f_Leaves)]), (eqVP p_1), (aggVP [bytesCk 32 a_2])] [(Log_e p_1 L_1)] (fun _ => [Log_e p_1 r.2.2.2]) (tupVP [(aggVP [bytesCk 32 r.1.f_Seed, one (intVP .i64 r.1.f_Next), one (slVP (dC 32) r.1.f_Leaves)]), (aggVP [one (intVP .i64 r.2.1.f_Index), one (slVP (dC 32) r.2.1.f_Parts), one (slVP (dC 32) r.2.1.f_Others), one (slVP (dC 32) r.2.1.f_Path)]), (intVP .i64 r.2.2.1)]) := by
  refine CallOk.intro 45 Tryz.func24 rfl Tryz.ntmps24 (Nat.le_of_ble_eq_true rfl) ?_
  intro c a w hG hn h
  unfold keys_Signer_Sign at hF
  change SatL c [.slot 0 (aggVP [bytesCk 32 a_0.f_Seed, one (intVP .i64 a_0.f_Next), one (slVP (dC 32) a_0.f_Leaves)]), .slot 1 (eqVP p_1), .slot 2 (aggVP [bytesCk 32 a_2]), .res (Log_e p_1 L_1)] a w at h
  refine regS mixed hn hG h [1, 508, 506, 504, 502, 3, 507, 505, 503, 501] (ob [0] (op_box q0 (cells_agg _)) <| ob [2] (op_box q0 (cells_agg _)) <| ob [] (op_alloc Tryz.zeroValue29 z29) <| ob [] (op_alloc Tryz.zeroValue46 z46) <| ov [] (op_assign qi) .nil) fun b1 a w h => ?_
  refine wp_seq ?_
  refine wp_seq ?_
  refine wp_cut (fun a w => ∃ (x5 : Bool), keys_Signer_Sign.j1 a_0 L_1 a_2 x5 = some r ∧ SatL c [.slot 1 (eqVP p_1), .slot 3 (lpVP (b1 0) 0), .slot 5 (lpVP (b1 1) 0), .slot 6 (lpVP (b1 2) 0), .slot 7 (lpVP (b1 3) 0), .slot 18 (boolVP x5), .res (Log_e p_1 L_1), .res (lb (b1 0) 29 [bytesCk 32 a_0.f_Seed, one (intVP .i64 a_0.f_Next), one (slVP (dC 32) a_0.f_Leaves)]), .res (lb (b1 1) 23 [bytesCk 32 a_2]), .res (lb (b1 2) 29 [bytesCk 32 ((S_keys_Signer.mk (List.replicate 32 0) (0 : Int) []).f_Seed), one (intVP .i64 ((S_keys_Signer.mk (List.replicate 32 0) (0 : Int) []).f_Next)), one (slVP (dC 32) ((S_keys_Signer.mk (List.replicate 32 0) (0 : Int) []).f_Leaves))]), .res (lb (b1 3) 46 [one (intVP .i64 ((S_api_Sig.mk (0 : Int) [] [] []).f_Index)), one (slVP (dC 32) ((S_api_Sig.mk (0 : Int) [] [] []).f_Parts)), one (slVP (dC 32) ((S_api_Sig.mk (0 : Int) [] [] []).f_Others)), one (slVP (dC 32) ((S_api_Sig.mk (0 : Int) [] [] []).f_Path))])] a w) ?_ ?_
  · rcases Bool.eq_false_or_eq_true (decide (a_0.f_Next < (0 : Int))) with hb11 | hb11
    · replace hF := tt_of hb11 hF
      refine reg mixed hn hG h [0, 1, 2, 3, 4, 500, 5, 6, 7, 8, 9] (ov [1] (op_fieldAddr_lbm (p := (b1 0)) (n := 1) 0 32 Tryz.underlying29 rfl Tryz.sizeOf3 (by decide) q0 rfl) <| ov [500, 6] (op_load_lb1 [bytesCk 32 a_0.f_Seed] [one (slVP (dC 32) a_0.f_Leaves)] 1 Tryz.isAgg3 q0 rfl rfl) <| ov [500] (op_bin bin_lss q0 qi) <| ov [500] (op_move q0) <| oe [500] [] (GOk.off_v (want := false) hb11 rfl rfl rfl rfl) <| oe [501] [] (GOk.off_v (want := false) hb11 rfl rfl rfl rfl) <| oe [502] [] (GOk.off_v (want := false) hb11 rfl rfl rfl rfl) <| ov [503] (op_pick_t hb11 q0 qb) .nil) fun _ a w h => ?_
      exact ⟨true, hF, h.sub [0, 1, 2, 3, 4, 5, 6, 7, 8, 9, 10] (by rfl)⟩
    · replace hF := ff_of hb11 hF
      refine reg mixed hn hG h [0, 1, 2, 3, 4, 500, 5, 6, 7, 8, 9] (ov [1] (op_fieldAddr_lbm (p := (b1 0)) (n := 1) 0 32 Tryz.underlying29 rfl Tryz.sizeOf3 (by decide) q0 rfl) <| ov [500, 6] (op_load_lb1 [bytesCk 32 a_0.f_Seed] [one (slVP (dC 32) a_0.f_Leaves)] 1 Tryz.isAgg3 q0 rfl rfl) <| ov [500] (op_bin bin_lss q0 qi) <| ov [500] (op_move q0) <| oe [500, 1] [] (GOk.on_eq hb11 rfl rfl rfl (op_fieldAddr_lbm (p := (b1 0)) (n := 1) 0 32 Tryz.underlying29 rfl Tryz.sizeOf3 (by decide) q0 rfl)) <| oe [501, 500, 6] [] (GOk.on_eq hb11 rfl rfl rfl (op_load_lb1 [bytesCk 32 a_0.f_Seed] [one (slVP (dC 32) a_0.f_Leaves)] 1 Tryz.isAgg3 q0 rfl rfl)) <| oe [502, 500] [] (GOk.on_eq hb11 rfl rfl rfl (op_bin bin_geq q0 qi)) <| ov [503, 500] (op_pick_f hb11 q0 q1) .nil) fun _ a w h => ?_
      exact ⟨decide ((16 : Int) ≤ a_0.f_Next), hF, h.sub [0, 1, 2, 3, 4, 5, 6, 7, 8, 9, 10] (by rfl)⟩
  · clear h hF
    rintro a w ⟨x5, hF, h⟩
    unfold keys_Signer_Sign.j1 at hF
    show Code.wp Tryz.prog _ _ a w
    refine cnd h hF 5 [1, 3, 4, 6, 7, 9, 10] [0, 1, 2, 3, 4, 6, 7, 8, 9, 10] (fun hb6 hF h => ?_) (fun hb6 hF h => ?_)
    · refine regS mixed hn hG h [1, 2, 500, 3, 502, 501] (ov [0, 4] (op_load_w 1 Tryz.isAgg29 Tryz.sizeOf29 q0) <| ov [] (op_build [] rfl bu46 z46 rfl) <| ou [1, 501] 5 (op_store_w Tryz.sizeOf29 q0 q1 (cells_agg _)) <| ou [2, 501] 6 (op_store_w Tryz.sizeOf46 q0 q1 (cells_agg _)) <| ov [] (op_assign qi) .nil) fun _ a w h => ?_
      refine wp_ret ?_
      obtain rfl := Option.some.inj hF
      exact ⟨.inl rfl, retn h (rs := [.cell 6 29, .cell 7 46, .tmp 8]) (Vs := [(aggVP [bytesCk 32 a_0.f_Seed, one (intVP .i64 a_0.f_Next), one (slVP (dC 32) a_0.f_Leaves)]), (aggVP [one (intVP .i64 (0 : Int)), one (slVP (dC 32) []), one (slVP (dC 32) []), one (slVP (dC 32) [])]), (intVP .i64 22)]) Tryz.results24 (by decide) ⟨(r_cell 0 4 rfl rfl Tryz.isAgg29 Tryz.sizeOf29 rfl), (r_cell 1 5 rfl rfl Tryz.isAgg46 Tryz.sizeOf46 rfl), (r_tmp 2 rfl), trivial⟩ [3] [(Log_e p_1 L_1)] rfl rfl rfl⟩
    · refine wp_skip ?_
      show Code.wp Tryz.prog _ _ a w
      obtain ⟨r7, hr7, hF⟩ := bind_some hF
      refine regS mixed hn hG h [1, 3, 4, 503, 500, 6, 8, 9, 507, 501] (ov [1, 6] (op_load_w 1 Tryz.isAgg29 Tryz.sizeOf29 q0) <| ov [0] (op_move q0) <| ov [1] (op_fieldAddr_lbm (p := (b1 0)) (n := 1) 0 32 Tryz.underlying29 rfl Tryz.sizeOf3 (by decide) q0 rfl) <| ov [500, 6] (op_load_lb1 [bytesCk 32 a_0.f_Seed] [one (slVP (dC 32) a_0.f_Leaves)] 1 Tryz.isAgg3 q0 rfl rfl) <| ov [2, 7] (op_load_w 1 Tryz.isAgg23 Tryz.sizeOf23 q0) <| oc [504, 503, 501, 500] [5] Tryz.call44 (keys_Signer_Again_ok hr7) ⟨q0, q1, q2, q3, trivial⟩ <| ov [501] (op_move q0) <| ov [500] (op_extract q0 rfl) <| ov [501] (op_extract q0 rfl) <| ob [] (op_alloc Tryz.zeroValue46 z46) <| og [501, 503] [500] [.res 9 100000 (fun v1_ _ => (lb (v1_) 46 [one (intVP .i64 r7.1.f_Index), one (slVP (dC 32) r7.1.f_Parts), one (slVP (dC 32) r7.1.f_Others), one (slVP (dC 32) r7.1.f_Path)]))] (GOk.plain (op_store_w Tryz.sizeOf46 q0 q1 (cells_agg _)) rfl) <| ov [503] (op_assign q0) .nil) fun b8 a w h => ?_
      refine wp_seq ?_
      refine regS mixed hn hG h [0, 1, 2, 3, 4, 500, 5, 6, 7, 8, 9] (ov [4] (op_move q0) <| ov [500] (op_bin bin_neq q0 qi) .nil) fun _ a w h => ?_
      refine cnd h hF 5 [0, 1, 2, 4, 6, 7, 8, 9] [0, 1, 2, 3, 6, 7, 8, 9, 10] (fun hb9 hF h => ?_) (fun hb9 hF h => ?_)
      · refine regS mixed hn hG h [1, 2, 500, 502, 501, 7] (ov [0, 4] (op_load_w 1 Tryz.isAgg29 Tryz.sizeOf29 q0) <| ov [] (op_build [] rfl bu46 z46 rfl) <| ov [3] (op_move q0) <| ou [1, 502] 5 (op_store_w Tryz.sizeOf29 q0 q1 (cells_agg _)) <| ou [2, 502] 6 (op_store_w Tryz.sizeOf46 q0 q1 (cells_agg _)) <| ov [502] (op_assign q0) .nil) fun _ a w h => ?_
        refine wp_ret ?_
        obtain rfl := Option.some.inj hF
        exact ⟨.inl rfl, retn h (rs := [.cell 6 29, .cell 7 46, .tmp 8]) (Vs := [(aggVP [bytesCk 32 a_0.f_Seed, one (intVP .i64 a_0.f_Next), one (slVP (dC 32) a_0.f_Leaves)]), (aggVP [one (intVP .i64 (0 : Int)), one (slVP (dC 32) []), one (slVP (dC 32) []), one (slVP (dC 32) [])]), (intVP .i64 r7.2.1)]) Tryz.results24 (by decide) ⟨(r_cell 0 3 rfl rfl Tryz.isAgg29 Tryz.sizeOf29 rfl), (r_cell 1 4 rfl rfl Tryz.isAgg46 Tryz.sizeOf46 rfl), (r_tmp 2 rfl), trivial⟩ [5] [(Log_e p_1 r7.2.2)] rfl rfl rfl⟩
      · refine wp_skip ?_
        show Code.wp Tryz.prog _ _ a w
        refine regS mixed hn hG h [0, 1, 2, 3, 500, 5, 6, 7, 8] (ov [0] (op_fieldAddr_lbm (p := (b1 0)) (n := 1) 0 32 Tryz.underlying29 rfl Tryz.sizeOf3 (by decide) q0 rfl) <| ov [500, 4] (op_load_lb1 [bytesCk 32 a_0.f_Seed] [one (slVP (dC 32) a_0.f_Leaves)] 1 Tryz.isAgg3 q0 rfl rfl) <| ov [500] (op_bin bin_add q0 qi) <| ov [0] (op_fieldAddr_lbm (p := (b1 0)) (n := 1) 0 32 Tryz.underlying29 rfl Tryz.sizeOf3 (by decide) q0 rfl) <| ou [500, 501] 4 (op_store_lb [bytesCk 32 a_0.f_Seed] [one (intVP .i64 a_0.f_Next)] [one (slVP (dC 32) a_0.f_Leaves)] [one (intVP .i64 (IntKind.wrap .i64 (a_0.f_Next + 1)))] Tryz.sizeOf3 q0 q1 (cells_one (one_int _ _)) rfl rfl rfl) .nil) fun _ a w h => ?_
        obtain ⟨r10, hr10, hF⟩ := bind_some hF
        refine regS mixed hn hG h [0, 1, 2, 3, 500, 5, 6, 7, 8] (ov [0] (op_fieldAddr_lbm (p := (b1 0)) (n := 1) 0 33 Tryz.underlying29 rfl Tryz.sizeOf27 (by decide) q0 rfl) <| ov [500, 4] (op_load_lb1 [bytesCk 32 a_0.f_Seed, one (intVP .i64 (IntKind.wrap .i64 (a_0.f_Next + 1)))] [] 1 Tryz.isAgg27 q0 rfl rfl) <| oc [500] [] Tryz.call18 (slices_Clone_api_Digest_ok hr10) ⟨q0, trivial⟩ <| ov [0] (op_fieldAddr_lbm (p := (b1 0)) (n := 1) 0 33 Tryz.underlying29 rfl Tryz.sizeOf27 (by decide) q0 rfl) <| ou [500, 501] 4 (op_store_lb [bytesCk 32 a_0.f_Seed, one (intVP .i64 (IntKind.wrap .i64 (a_0.f_Next + 1)))] [one (slVP (dC 32) a_0.f_Leaves)] [] [one (slVP (dC 32) r10)] Tryz.sizeOf27 q0 q1 (cells_one (one_sl _ _)) rfl rfl rfl) .nil) fun _ a w h => ?_
        refine regS mixed hn hG h [1, 2, 500, 502, 501, 7] (ov [0, 4] (op_load_w 1 Tryz.isAgg29 Tryz.sizeOf29 q0) <| ov [3, 8] (op_load_w 1 Tryz.isAgg46 Tryz.sizeOf46 q0) <| ou [1, 501] 5 (op_store_w Tryz.sizeOf29 q0 q1 (cells_agg _)) <| ou [2, 501] 6 (op_store_w Tryz.sizeOf46 q0 q1 (cells_agg _)) <| ov [] (op_assign qi) .nil) fun _ a w h => ?_
        refine wp_ret ?_
        obtain rfl := Option.some.inj hF
        exact ⟨.inl rfl, retn h (rs := [.cell 6 29, .cell 7 46, .tmp 8]) (Vs := [(aggVP [bytesCk 32 a_0.f_Seed, one (intVP .i64 (IntKind.wrap .i64 (a_0.f_Next + 1))), one (slVP (dC 32) r10)]), (aggVP [one (intVP .i64 r7.1.f_Index), one (slVP (dC 32) r7.1.f_Parts), one (slVP (dC 32) r7.1.f_Others), one (slVP (dC 32) r7.1.f_Path)]), (intVP .i64 0)]) Tryz.results24 (by decide) ⟨(r_cell 0 3 rfl rfl Tryz.isAgg29 Tryz.sizeOf29 rfl), (r_cell 1 4 rfl rfl Tryz.isAgg46 Tryz.sizeOf46 rfl), (r_tmp 2 rfl), trivial⟩ [5] [(Log_e p_1 r7.2.2)] rfl rfl rfl⟩

def update_Claim (L_0 : Option O_Log) (a_1 : Int) (a_2 : List UInt8) (a_3 : List UInt8) : Option ((List UInt8) × (Option O_Log)) := ((wire_Word a_1).bind fun r4 => ((wire_Digest a_2).bind fun r5 => ((wire_Digest a_3).bind fun r6 => ((digest_Log_Of L_0 7 [r4, r5, r6]).bind fun r7 => some (r7.1, r7.2)))))
theorem update_Claim_ok {p_0 : Value} {L_0 : Option O_Log} {a_1 : Int} {a_2 : List UInt8} {a_3 : List UInt8} {r : (List UInt8) × (Option O_Log)} (hF : update_Claim L_0 a_1 a_2 a_3 = some r) : CallOk Tryz.prog KG 25 [(eqVP p_0), (intVP .u32 a_1), (aggVP [bytesCk 32 a_2]), (aggVP [bytesCk 32 a_3])] [(Log_e p_0 L_0)] (fun _ => [Log_e p_0 r.2]) (aggVP [bytesCk 32 r.1]) := by
  refine CallOk.intro 18 Tryz.func25 rfl Tryz.ntmps25 (Nat.le_of_ble_eq_true rfl) ?_
  intro c a w hG hn h
  unfold update_Claim at hF
  change SatL c [.slot 0 (eqVP p_0), .slot 1 (intVP .u32 a_1), .slot 2 (aggVP [bytesCk 32 a_2]), .slot 3 (aggVP [bytesCk 32 a_3]), .res (Log_e p_0 L_0)] a w at h
  refine regS mixed hn hG h [0, 1, 505, 503, 501, 4, 504, 502, 500] (ob [2] (op_box q0 (cells_agg _)) <| ob [3] (op_box q0 (cells_agg _)) <| ob [] (op_alloc Tryz.zeroValue23 z23) .nil) fun b1 a w h => ?_
  obtain ⟨r4, hr4, hF⟩ := bind_some hF
  obtain ⟨r5, hr5, hF⟩ := bind_some hF
  obtain ⟨r6, hr6, hF⟩ := bind_some hF
  obtain ⟨r7, hr7, hF⟩ := bind_some hF
  refine regS mixed hn hG h [4, 500, 501] (ov [0] (op_move q0) <| ov [1] (op_move q0) <| oc [500] [] Tryz.call46 (wire_Word_ok hr4) ⟨q0, trivial⟩ <| ov [2, 6] (op_load_w 1 Tryz.isAgg23 Tryz.sizeOf23 q0) <| oc [500] [] Tryz.call47 (wire_Digest_ok hr5) ⟨q0, trivial⟩ <| ov [3, 7] (op_load_w 1 Tryz.isAgg23 Tryz.sizeOf23 q0) <| oc [500] [] Tryz.call47 (wire_Digest_ok hr6) ⟨q0, trivial⟩ <| ov [504, 502, 500] (op_lit (xs := [.tmp 11, .tmp 13, .tmp 15]) (ys := [r4, r5, r6]) _ rfl Tryz.underlying75 Tryz.sizeOf9 Tryz.zeroValue9 rfl rfl (by decide) (by decide) ⟨⟨_, q0, (cells_one (one_str _))⟩, ⟨_, q1, (cells_one (one_str _))⟩, ⟨_, q2, (cells_one (one_str _))⟩, trivial⟩ lens_strC) <| oc [507, 500] [5] Tryz.call45 (digest_Log_Of_ok hr7) ⟨q0, qi, q1, trivial⟩ <| ou [4, 501] 8 (op_store_w Tryz.sizeOf23 q0 q1 (cells_agg _)) .nil) fun _ a w h => ?_
  refine wp_ret ?_
  obtain rfl := Option.some.inj hF
  exact ⟨.inl rfl, ret1 h Tryz.results25 (r_cell 0 1 rfl rfl Tryz.isAgg23 Tryz.sizeOf23 rfl) [2] [(Log_e p_0 r7.2)] rfl rfl rfl⟩

def update_Sign (L_0 : Option O_Log) (a_1 : S_keys_Signer) (a_2 : Int) (a_3 : List UInt8) (a_4 : List UInt8) : Option (S_keys_Signer × S_api_Update × Int × (Option O_Log)) := ((update_Claim L_0 a_2 a_3 a_4).bind fun r6 => ((keys_Signer_Sign a_1 r6.2 r6.1).bind fun r7 => (if (!decide (r7.2.2.1 = (0 : Int))) = true then some (a_1, (S_api_Update.mk (0 : Int) (List.replicate 32 0) (List.replicate 32 0) (S_api_Sig.mk (0 : Int) [] [] [])), r7.2.2.1, r7.2.2.2) else some (r7.1, (S_api_Update.mk a_2 a_3 a_4 r7.2.1), 0, r7.2.2.2))))
theorem update_Sign_ok {p_0 : Value} {L_0 : Option O_Log} {a_1 : S_keys_Signer} {a_2 : Int} {a_3 : List UInt8} {a_4 : List UInt8} {r : S_keys_Signer × S_api_Update × Int × (Option O_Log)} (hF : update_Sign L_0 a_1 a_2 a_3 a_4 = some r) : CallOk Tryz.prog KG 10 [(eqVP p_0), (aggVP [bytesCk 32 a_1.f_Seed, one (intVP .i64 a_1.f_Next), one (slVP (dC 32) a_1.f_Leaves)]), (intVP .u32 a_2), (aggVP [bytesCk 32 a_3]), (aggVP [bytesCk 32 a_4])] [(Log_e p_0 L_0)] (fun _ => [Log_e p_0 r.2.2.2]) (tupVP [(aggVP [bytesCk 32 r.1.f_Seed, one (intVP .i64 r.1.f_Next), one (slVP (dC 32) r.1.f_Leaves)]), (aggVP [one (intVP .u32 r.2.1.f_Home), bytesCk 32 r.2.1.f_Old, bytesCk 32 r.2.1.f_New, one (intVP .i64 r.2.1.f_Sig.f_Index), one (slVP (dC 32) r.2.1.f_Sig.f_Parts), one (slVP (dC 32) r.2.1.f_Sig.f_Others), one (slVP (dC 32) r.2.1.f_Sig.f_Path)]), (intVP .i64 r.2.2.1)]) := by
  refine CallOk.intro 39 Tryz.func10 rfl Tryz.ntmps10 (Nat.le_of_ble_eq_true rfl) ?_
  intro c a w hG hn h
  unfold update_Sign at hF
  change SatL c [.slot 0 (eqVP p_0), .slot 1 (aggVP [bytesCk 32 a_1.f_Seed, one (intVP .i64 a_1.f_Next), one (slVP (dC 32) a_1.f_Leaves)]), .slot 2 (intVP .u32 a_2), .slot 3 (aggVP [bytesCk 32 a_3]), .slot 4 (aggVP [bytesCk 32 a_4]), .res (Log_e p_0 L_0)] a w at h
  refine regS mixed hn hG h [0, 2, 510, 508, 506, 504, 502, 5, 509, 507, 505, 503, 501] (ob [1] (op_box q0 (cells_agg _)) <| ob [3] (op_box q0 (cells_agg _)) <| ob [4] (op_box q0 (cells_agg _)) <| ob [] (op_alloc Tryz.zeroValue29 z29) <| ob [] (op_alloc Tryz.zeroValue48 z48) <| ov [] (op_assign qi) .nil) fun b1 a w h => ?_
  obtain ⟨r6, hr6, hF⟩ := bind_some hF
  obtain ⟨r7, hr7, hF⟩ := bind_some hF
  refine regS mixed hn hG h [1, 2, 3, 4, 5, 6, 506, 504, 500, 8, 9, 10, 11, 12, 511, 502, 501] (ov [2, 8] (op_load_w 1 Tryz.isAgg29 Tryz.sizeOf29 q0) <| ov [0] (op_move q0) <| ov [0] (op_move q0) <| ov [1] (op_move q0) <| ov [3, 9] (op_load_w 1 Tryz.isAgg23 Tryz.sizeOf23 q0) <| ov [4, 10] (op_load_w 1 Tryz.isAgg23 Tryz.sizeOf23 q0) <| oc [503, 502, 501, 500] [7] Tryz.call25 (update_Claim_ok hr6) ⟨q0, q1, q2, q3, trivial⟩ <| oc [507, 506, 501] [500] Tryz.call24 (keys_Signer_Sign_ok hr7) ⟨q0, q1, q2, trivial⟩ <| ov [501] (op_move q0) <| ov [500] (op_extract q0 rfl) <| ov [501] (op_extract q0 rfl) <| ov [502] (op_extract q0 rfl) <| ob [] (op_alloc Tryz.zeroValue29 z29) <| ob [] (op_alloc Tryz.zeroValue46 z46) <| og [503, 506] [502] [.res 12 100000 (fun v1_ _ => (lb (v1_) 29 [bytesCk 32 r7.1.f_Seed, one (intVP .i64 r7.1.f_Next), one (slVP (dC 32) r7.1.f_Leaves)]))] (GOk.plain (op_store_w Tryz.sizeOf29 q0 q1 (cells_agg _)) rfl) <| og [502, 506] [501] [.res 13 100000 (fun v1_ _ => (lb (v1_) 46 [one (intVP .i64 r7.2.1.f_Index), one (slVP (dC 32) r7.2.1.f_Parts), one (slVP (dC 32) r7.2.1.f_Others), one (slVP (dC 32) r7.2.1.f_Path)]))] (GOk.plain (op_store_w Tryz.sizeOf46 q0 q1 (cells_agg _)) rfl) <| ov [506] (op_assign q0) .nil) fun b8 a w h => ?_
  refine wp_seq ?_
  refine regS mixed hn hG h [0, 1, 2, 3, 4, 5, 6, 7, 8, 500, 9, 10, 11, 12, 13, 14, 15, 16] (ov [8] (op_move q0) <| ov [500] (op_bin bin_neq q0 qi) .nil) fun _ a w h => ?_
  refine cnd h hF 9 [1, 4, 5, 8, 10, 13, 14, 15] [0, 2, 3, 4, 5, 6, 7, 11, 12, 13, 14, 15, 16, 17] (fun hb10 hF h => ?_) (fun hb10 hF h => ?_)
  · refine regS mixed hn hG h [1, 2, 500, 502, 501, 7] (ov [0, 4] (op_load_w 1 Tryz.isAgg29 Tryz.sizeOf29 q0) <| ov [] (op_build [] rfl bu48 z48 rfl) <| ov [3] (op_move q0) <| ou [1, 502] 5 (op_store_w Tryz.sizeOf29 q0 q1 (cells_agg _)) <| ou [2, 502] 6 (op_store_w Tryz.sizeOf48 q0 q1 (cells_agg _)) <| ov [502] (op_assign q0) .nil) fun _ a w h => ?_
    refine wp_ret ?_
    obtain rfl := Option.some.inj hF
    exact ⟨.inl rfl, retn h (rs := [.cell 10 29, .cell 11 48, .tmp 12]) (Vs := [(aggVP [bytesCk 32 a_1.f_Seed, one (intVP .i64 a_1.f_Next), one (slVP (dC 32) a_1.f_Leaves)]), (aggVP [one (intVP .u32 (0 : Int)), bytesCk 32 (List.replicate 32 0), bytesCk 32 (List.replicate 32 0), one (intVP .i64 ((S_api_Sig.mk (0 : Int) [] [] []).f_Index)), one (slVP (dC 32) ((S_api_Sig.mk (0 : Int) [] [] []).f_Parts)), one (slVP (dC 32) ((S_api_Sig.mk (0 : Int) [] [] []).f_Others)), one (slVP (dC 32) ((S_api_Sig.mk (0 : Int) [] [] []).f_Path))]), (intVP .i64 r7.2.2.1)]) Tryz.results10 (by decide) ⟨(r_cell 0 3 rfl rfl Tryz.isAgg29 Tryz.sizeOf29 rfl), (r_cell 1 4 rfl rfl Tryz.isAgg48 Tryz.sizeOf48 rfl), (r_tmp 2 rfl), trivial⟩ [5] [(Log_e p_0 r7.2.2.2)] rfl rfl rfl⟩
  · refine wp_skip ?_
    show Code.wp Tryz.prog _ _ a w
    refine regS mixed hn hG h [3, 4, 500, 502, 501, 11] (ov [5, 12] (op_load_w 1 Tryz.isAgg29 Tryz.sizeOf29 q0) <| ov [0] (op_move q0) <| ov [1, 7] (op_load_w 1 Tryz.isAgg23 Tryz.sizeOf23 q0) <| ov [2, 8] (op_load_w 1 Tryz.isAgg23 Tryz.sizeOf23 q0) <| ov [6, 13] (op_load_w 1 Tryz.isAgg46 Tryz.sizeOf46 q0) <| ov [503, 502, 501, 500] (op_build [(0, .tmp 34), (1, .tmp 35), (2, .tmp 36), (3, .tmp 37)] rfl bu48 z48 ⟨[], [one (intVP .u32 (0 : Int))], [bytesCk 32 (List.replicate 32 0), bytesCk 32 (List.replicate 32 0), one (intVP .i64 ((S_api_Sig.mk (0 : Int) [] [] []).f_Index)), one (slVP (dC 32) ((S_api_Sig.mk (0 : Int) [] [] []).f_Parts)), one (slVP (dC 32) ((S_api_Sig.mk (0 : Int) [] [] []).f_Others)), one (slVP (dC 32) ((S_api_Sig.mk (0 : Int) [] [] []).f_Path))], [one (intVP .u32 a_2)], _, rfl, rfl, rfl, q0, (cells_one (one_int _ _)), ⟨[one (intVP .u32 a_2)], [bytesCk 32 (List.replicate 32 0)], [bytesCk 32 (List.replicate 32 0), one (intVP .i64 ((S_api_Sig.mk (0 : Int) [] [] []).f_Index)), one (slVP (dC 32) ((S_api_Sig.mk (0 : Int) [] [] []).f_Parts)), one (slVP (dC 32) ((S_api_Sig.mk (0 : Int) [] [] []).f_Others)), one (slVP (dC 32) ((S_api_Sig.mk (0 : Int) [] [] []).f_Path))], [bytesCk 32 a_3], _, rfl, rfl, rfl, q1, (cells_agg _), ⟨[one (intVP .u32 a_2), bytesCk 32 a_3], [bytesCk 32 (List.replicate 32 0)], [one (intVP .i64 ((S_api_Sig.mk (0 : Int) [] [] []).f_Index)), one (slVP (dC 32) ((S_api_Sig.mk (0 : Int) [] [] []).f_Parts)), one (slVP (dC 32) ((S_api_Sig.mk (0 : Int) [] [] []).f_Others)), one (slVP (dC 32) ((S_api_Sig.mk (0 : Int) [] [] []).f_Path))], [bytesCk 32 a_4], _, rfl, rfl, rfl, q2, (cells_agg _), ⟨[one (intVP .u32 a_2), bytesCk 32 a_3, bytesCk 32 a_4], [one (intVP .i64 ((S_api_Sig.mk (0 : Int) [] [] []).f_Index)), one (slVP (dC 32) ((S_api_Sig.mk (0 : Int) [] [] []).f_Parts)), one (slVP (dC 32) ((S_api_Sig.mk (0 : Int) [] [] []).f_Others)), one (slVP (dC 32) ((S_api_Sig.mk (0 : Int) [] [] []).f_Path))], [], [one (intVP .i64 r7.2.1.f_Index), one (slVP (dC 32) r7.2.1.f_Parts), one (slVP (dC 32) r7.2.1.f_Others), one (slVP (dC 32) r7.2.1.f_Path)], _, rfl, rfl, rfl, q3, (cells_agg _), rfl⟩⟩⟩⟩) <| ou [3, 505] 9 (op_store_w Tryz.sizeOf29 q0 q1 (cells_agg _)) <| ou [4, 501] 10 (op_store_w Tryz.sizeOf48 q0 q1 (cells_agg _)) <| ov [] (op_assign qi) .nil) fun _ a w h => ?_
    refine wp_ret ?_
    obtain rfl := Option.some.inj hF
    exact ⟨.inl rfl, retn h (rs := [.cell 10 29, .cell 11 48, .tmp 12]) (Vs := [(aggVP [bytesCk 32 r7.1.f_Seed, one (intVP .i64 r7.1.f_Next), one (slVP (dC 32) r7.1.f_Leaves)]), (aggVP [one (intVP .u32 a_2), bytesCk 32 a_3, bytesCk 32 a_4, one (intVP .i64 r7.2.1.f_Index), one (slVP (dC 32) r7.2.1.f_Parts), one (slVP (dC 32) r7.2.1.f_Others), one (slVP (dC 32) r7.2.1.f_Path)]), (intVP .i64 0)]) Tryz.results10 (by decide) ⟨(r_cell 0 3 rfl rfl Tryz.isAgg29 Tryz.sizeOf29 rfl), (r_cell 1 4 rfl rfl Tryz.isAgg48 Tryz.sizeOf48 rfl), (r_tmp 2 rfl), trivial⟩ [5] [(Log_e p_0 r7.2.2.2)] rfl rfl rfl⟩

def ref03_SameList.b1 (a_0 : List (List UInt8)) (a_1 : List (List UInt8)) (x6 : Int) : Option (Flow Bool Int) := (if (decide (x6 < (a_0.length : Int))) = true then (if (0 : Int) ≤ x6 ∧ x6 < a_0.length then (if (0 : Int) ≤ x6 ∧ x6 < a_1.length then (if (!decide ((a_0.getD x6.toNat default) = (a_1.getD x6.toNat default))) = true then some (.ret false) else some (.cont (IntKind.wrap .i64 (x6 + 1)))) else none) else none) else some (.brk x6))
def ref03_SameList (a_0 : List (List UInt8)) (a_1 : List (List UInt8)) : Option Bool := (if (!decide ((a_0.length : Int) = (a_1.length : Int))) = true then some false else ((loopN (fun s : Int => ref03_SameList.b1 a_0 a_1 s) (((a_0.length : Int) - 0 : Int).toNat + 2) 0).bind fun cr => match cr with | .ret r => some r | .next y20 => some true))
theorem ref03_SameList_ok {a_0 : List (List UInt8)} {a_1 : List (List UInt8)} {r : Bool} (hF : ref03_SameList a_0 a_1 = some r) : CallOk Tryz.prog KG 48 [(slVP (dC 32) a_0), (slVP (dC 32) a_1)] [] (fun _ => []) (boolVP r) := by
  refine CallOk.intro 26 Tryz.func48 rfl Tryz.ntmps48 (Nat.le_of_ble_eq_true rfl) ?_
  intro c a w hG hn h
  unfold ref03_SameList at hF
  change SatL c [.slot 0 (slVP (dC 32) a_0), .slot 1 (slVP (dC 32) a_1)] a w at h
  refine regS mixed hn hG h [0, 1] (ov [] (op_assign qb) .nil) fun _ a w h => ?_
  refine wp_seq ?_
  refine regS mixed hn hG h [0, 1, 500] (ov [0] (op_move q0) <| ov [500] (op_len_sl Tryz.underlying27 q0) <| ov [1] (op_move q0) <| ov [500] (op_len_sl Tryz.underlying27 q0) <| ov [502, 500] (op_bin bin_neq q0 q1) .nil) fun _ a w h => ?_
  refine cnd h hF 2 [] [0, 1] (fun hb1 hF h => ?_) (fun hb1 hF h => ?_)
  · refine regS mixed hn hG h [500] (ov [] (op_assign qb) .nil) fun _ a w h => ?_
    refine wp_ret ?_
    obtain rfl := Option.some.inj hF
    exact ⟨.inl rfl, ret1 h Tryz.results48 (r_tmp 0 rfl) [] [] rfl rfl rfl⟩
  · refine wp_skip ?_
    show Code.wp Tryz.prog _ _ a w
    refine wp_seq ?_
    refine regS mixed hn hG h [0, 1, 501, 500] (ov [0] (op_move q0) <| ov [500] (op_len_sl Tryz.underlying27 q0) <| ov [] (op_move qi) .nil) fun _ a w h => ?_
    refine wp_block ?_
    obtain ⟨cr16, hl17, hF⟩ := bind_some hF
    refine wp_mono (wp_loopN (R := Bool) (S := Int) (fun s a w => SatL c [.slot 0 (slVP (dC 32) a_0), .slot 1 (slVP (dC 32) a_1), .slot 12 (intVP .i64 (a_0.length : Int)), .slot 13 (intVP .i64 s)] a w) (fun res e a w => match res with | .next s => e = .exit 0 ∧ SatL c [] a w | .ret r => e = .ret ∧ RetOk Tryz.prog Tryz.f48 c (boolVP r) (fun _ => []) a w) ?_ _ 0 _ _ _ (h.sub [0, 1, 2, 3] (by rfl)) hl17) ?_
    · clear hl17 hF h
      intro x6 a w o h hF
      change ref03_SameList.b1 a_0 a_1 x6 = some o at hF
      unfold ref03_SameList.b1 at hF
      change SatL c [.slot 0 (slVP (dC 32) a_0), .slot 1 (slVP (dC 32) a_1), .slot 12 (intVP .i64 (a_0.length : Int)), .slot 13 (intVP .i64 x6)] a w at h
      refine regS mixed hn hG h [0, 1, 2, 3, 500] (ov [3, 2] (op_bin bin_lss q0 q1) .nil) fun _ a w h => ?_
      refine wp_seq ?_
      refine cnd h hF 4 [0, 1, 2, 3] [0, 1, 2, 3] (fun hb12 hF h => ?_) (fun hb12 hF h => ?_)
      · refine wp_skip ?_
        show Code.wp Tryz.prog _ _ a w
        refine wp_seq ?_
        refine wp_block ?_
        refine regS mixed hn hG h [0, 1, 500, 2, 3] (ov [3] (op_move q0) <| ov [500] (op_assign q0) .nil) fun _ a w h => ?_
        obtain ⟨hv13, hF⟩ := ite_some hF
        obtain ⟨hv14, hF⟩ := ite_some hF
        refine regS mixed hn hG h [0, 1, 3, 4, 500] (ov [0] (op_move q0) <| ov [2] (op_move q0) <| ov [501, 500] (op_indexAddr_sl Tryz.underlying27 Tryz.sizeOf23 (lens_dC 32) q0 q1 hv13) <| ov [500] (op_load_pp [bytesCk 32 (a_0.getD x6.toNat default)] [] Tryz.isAgg23 Tryz.sizeOf23 q0 rfl) <| ov [1] (op_move q0) <| ov [2] (op_move q0) <| ov [501, 500] (op_indexAddr_sl Tryz.underlying27 Tryz.sizeOf23 (lens_dC 32) q0 q1 hv14) <| ov [500] (op_load_pp [bytesCk 32 (a_1.getD x6.toNat default)] [] Tryz.isAgg23 Tryz.sizeOf23 q0 rfl) <| ov [504, 500] (op_bin (bin_aneq Tryz.underlying23 Tryz.underlying5 Tryz.type5 Tryz.sizeOf5 Tryz.isAgg5 Tryz.eqGuardType23) q0 q1) .nil) fun _ a w h => ?_
        refine cnd h hF 4 [] [0, 1, 2, 3] (fun hb15 hF h => ?_) (fun hb15 hF h => ?_)
        · refine regS mixed hn hG h [500] (ov [] (op_assign qb) .nil) fun _ a w h => ?_
          refine wp_ret ?_
          obtain rfl := Option.some.inj hF
          exact ⟨ret_ne, rfl, ret1 h Tryz.results48 (r_tmp 0 rfl) [] [] rfl rfl rfl⟩
        · refine wp_skip ?_
          show Code.wp Tryz.prog _ _ a w
          refine reg mixed hn hG h [0, 1, 2, 500] (ov [3] (op_bin bin_add q0 qi) <| od [500] 3 (op_move q0) .nil) fun _ a w h => ?_
          obtain rfl := Option.some.inj hF
          exact ⟨rfl, h.sub [0, 1, 2, 3] (by rfl)⟩
      · refine wp_exit ?_
        obtain rfl := Option.some.inj hF
        exact ⟨exit_ne _, rfl, h.sub [] (by rfl)⟩
    · clear hl17
      intro e a w hq
      cases cr16 with
      | ret r18 =>
        obtain ⟨rfl, hq⟩ := hq
        obtain rfl := Option.some.inj hF
        exact ⟨.inl rfl, hq⟩
      | next y20 =>
        obtain ⟨rfl, h⟩ := hq
        change SatL c [] a w at h
        refine inBlock_at ?_
        show Code.wp Tryz.prog _ _ a w
        refine regS mixed hn hG h [500] (ov [] (op_assign qb) .nil) fun _ a w h => ?_
        refine wp_ret ?_
        obtain rfl := Option.some.inj hF
        exact ⟨.inl rfl, ret1 h Tryz.results48 (r_tmp 0 rfl) [] [] rfl rfl rfl⟩

def ref03_SameSig.j1 (x6 : Bool) : Option Bool := some x6
def ref03_SameSig (a_0 : S_api_Sig) (a_1 : S_api_Sig) : Option Bool := (if (decide (a_0.f_Index = a_1.f_Index)) = true then ((ref03_SameList a_0.f_Parts a_1.f_Parts).bind fun r3 => (if r3 = true then ((ref03_SameList a_0.f_Others a_1.f_Others).bind fun r4 => (if r4 = true then ((ref03_SameList a_0.f_Path a_1.f_Path).bind fun r5 => ref03_SameSig.j1 r5) else ref03_SameSig.j1 false)) else ref03_SameSig.j1 false)) else ref03_SameSig.j1 false)
theorem ref03_SameSig_ok {a_0 : S_api_Sig} {a_1 : S_api_Sig} {r : Bool} (hF : ref03_SameSig a_0 a_1 = some r) : CallOk Tryz.prog KG 26 [(aggVP [one (intVP .i64 a_0.f_Index), one (slVP (dC 32) a_0.f_Parts), one (slVP (dC 32) a_0.f_Others), one (slVP (dC 32) a_0.f_Path)]), (aggVP [one (intVP .i64 a_1.f_Index), one (slVP (dC 32) a_1.f_Parts), one (slVP (dC 32) a_1.f_Others), one (slVP (dC 32) a_1.f_Path)])] [] (fun _ => []) (boolVP r) := by
  refine CallOk.intro 31 Tryz.func26 rfl Tryz.ntmps26 (Nat.le_of_ble_eq_true rfl) ?_
  intro c a w hG hn h
  unfold ref03_SameSig at hF
  change SatL c [.slot 0 (aggVP [one (intVP .i64 a_0.f_Index), one (slVP (dC 32) a_0.f_Parts), one (slVP (dC 32) a_0.f_Others), one (slVP (dC 32) a_0.f_Path)]), .slot 1 (aggVP [one (intVP .i64 a_1.f_Index), one (slVP (dC 32) a_1.f_Parts), one (slVP (dC 32) a_1.f_Others), one (slVP (dC 32) a_1.f_Path)])] a w at h
  refine regS mixed hn hG h [504, 502, 503, 501] (ob [0] (op_box q0 (cells_agg _)) <| ob [1] (op_box q0 (cells_agg _)) <| ov [] (op_assign qb) .nil) fun b1 a w h => ?_
  refine wp_seq ?_
  refine wp_cut (fun a w => ∃ (x6 : Bool), ref03_SameSig.j1 x6 = some r ∧ SatL c [.slot 4 (boolVP x6)] a w) ?_ ?_
  · rcases Bool.eq_false_or_eq_true (decide (a_0.f_Index = a_1.f_Index)) with hb7 | hb7
    · replace hF := tt_of hb7 hF
      obtain ⟨r3, hr3, hF⟩ := bind_some hF
      rcases Bool.eq_false_or_eq_true r3 with hb8 | hb8
      · replace hF := tt_of hb8 hF
        obtain ⟨r4, hr4, hF⟩ := bind_some hF
        rcases Bool.eq_false_or_eq_true r4 with hb9 | hb9
        · replace hF := tt_of hb9 hF
          obtain ⟨r5, hr5, hF⟩ := bind_some hF
          refine reg mixed hn hG h [500] (ov [0] (op_fieldAddr_lbm (p := (b1 0)) (n := 1) 0 0 Tryz.underlying46 rfl Tryz.sizeOf3 (by decide) q0 rfl) <| ov [500, 2] (op_load_lb1 [] [one (slVP (dC 32) a_0.f_Parts), one (slVP (dC 32) a_0.f_Others), one (slVP (dC 32) a_0.f_Path)] 1 Tryz.isAgg3 q0 rfl rfl) <| ov [1] (op_fieldAddr_lbm (p := (b1 1)) (n := 1) 0 0 Tryz.underlying46 rfl Tryz.sizeOf3 (by decide) q0 rfl) <| ov [500, 3] (op_load_lb1 [] [one (slVP (dC 32) a_1.f_Parts), one (slVP (dC 32) a_1.f_Others), one (slVP (dC 32) a_1.f_Path)] 1 Tryz.isAgg3 q0 rfl rfl) <| ov [502, 500] (op_bin bin_eql q0 q1) <| ov [500] (op_move q0) <| oe [500, 0] [] (GOk.on_eq hb7 rfl rfl rfl (op_fieldAddr_lbm (p := (b1 0)) (n := 1) 0 1 Tryz.underlying46 rfl Tryz.sizeOf27 (by decide) q0 rfl)) <| oe [501, 500, 2] [] (GOk.on_eq hb7 rfl rfl rfl (op_load_lb1 [one (intVP .i64 a_0.f_Index)] [one (slVP (dC 32) a_0.f_Others), one (slVP (dC 32) a_0.f_Path)] 1 Tryz.isAgg27 q0 rfl rfl)) <| oe [502, 1] [] (GOk.on_eq hb7 rfl rfl rfl (op_fieldAddr_lbm (p := (b1 1)) (n := 1) 0 1 Tryz.underlying46 rfl Tryz.sizeOf27 (by decide) q0 rfl)) <| oe [503, 500, 3] [] (GOk.on_eq hb7 rfl rfl rfl (op_load_lb1 [one (intVP .i64 a_1.f_Index)] [one (slVP (dC 32) a_1.f_Others), one (slVP (dC 32) a_1.f_Path)] 1 Tryz.isAgg27 q0 rfl rfl)) <| oe [504, 502, 500] [] (GOk.on_eq hb7 rfl rfl rfl (op_call Tryz.call48 (ref03_SameList_ok hr3) ⟨q0, q1, trivial⟩)) <| ov [505, 500] (op_pick_t hb7 q0 q1) <| ov [500] (op_move q0) <| oe [500, 0] [] (GOk.on_eq hb8 rfl rfl rfl (op_fieldAddr_lbm (p := (b1 0)) (n := 1) 0 2 Tryz.underlying46 rfl Tryz.sizeOf27 (by decide) q0 rfl)) <| oe [501, 500, 2] [] (GOk.on_eq hb8 rfl rfl rfl (op_load_lb1 [one (intVP .i64 a_0.f_Index), one (slVP (dC 32) a_0.f_Parts)] [one (slVP (dC 32) a_0.f_Path)] 1 Tryz.isAgg27 q0 rfl rfl)) <| oe [502, 1] [] (GOk.on_eq hb8 rfl rfl rfl (op_fieldAddr_lbm (p := (b1 1)) (n := 1) 0 2 Tryz.underlying46 rfl Tryz.sizeOf27 (by decide) q0 rfl)) <| oe [503, 500, 3] [] (GOk.on_eq hb8 rfl rfl rfl (op_load_lb1 [one (intVP .i64 a_1.f_Index), one (slVP (dC 32) a_1.f_Parts)] [one (slVP (dC 32) a_1.f_Path)] 1 Tryz.isAgg27 q0 rfl rfl)) <| oe [504, 502, 500] [] (GOk.on_eq hb8 rfl rfl rfl (op_call Tryz.call48 (ref03_SameList_ok hr4) ⟨q0, q1, trivial⟩)) <| ov [505, 500] (op_pick_t hb8 q0 q1) <| ov [500] (op_move q0) <| oe [500, 0] [] (GOk.on_eq hb9 rfl rfl rfl (op_fieldAddr_lbm (p := (b1 0)) (n := 1) 0 3 Tryz.underlying46 rfl Tryz.sizeOf27 (by decide) q0 rfl)) <| oe [501, 500, 2] [] (GOk.on_eq hb9 rfl rfl rfl (op_load_lb1 [one (intVP .i64 a_0.f_Index), one (slVP (dC 32) a_0.f_Parts), one (slVP (dC 32) a_0.f_Others)] [] 1 Tryz.isAgg27 q0 rfl rfl)) <| oe [502, 1] [] (GOk.on_eq hb9 rfl rfl rfl (op_fieldAddr_lbm (p := (b1 1)) (n := 1) 0 3 Tryz.underlying46 rfl Tryz.sizeOf27 (by decide) q0 rfl)) <| oe [503, 500, 3] [] (GOk.on_eq hb9 rfl rfl rfl (op_load_lb1 [one (intVP .i64 a_1.f_Index), one (slVP (dC 32) a_1.f_Parts), one (slVP (dC 32) a_1.f_Others)] [] 1 Tryz.isAgg27 q0 rfl rfl)) <| oe [504, 502, 500] [] (GOk.on_eq hb9 rfl rfl rfl (op_call Tryz.call48 (ref03_SameList_ok hr5) ⟨q0, q1, trivial⟩)) <| ov [505, 500] (op_pick_t hb9 q0 q1) <| ov [500] (op_assign q0) .nil) fun _ a w h => ?_
          exact ⟨r5, hF, h.sub [0] (by rfl)⟩
        · replace hF := ff_of hb9 hF
          refine reg mixed hn hG h [500] (ov [0] (op_fieldAddr_lbm (p := (b1 0)) (n := 1) 0 0 Tryz.underlying46 rfl Tryz.sizeOf3 (by decide) q0 rfl) <| ov [500, 2] (op_load_lb1 [] [one (slVP (dC 32) a_0.f_Parts), one (slVP (dC 32) a_0.f_Others), one (slVP (dC 32) a_0.f_Path)] 1 Tryz.isAgg3 q0 rfl rfl) <| ov [1] (op_fieldAddr_lbm (p := (b1 1)) (n := 1) 0 0 Tryz.underlying46 rfl Tryz.sizeOf3 (by decide) q0 rfl) <| ov [500, 3] (op_load_lb1 [] [one (slVP (dC 32) a_1.f_Parts), one (slVP (dC 32) a_1.f_Others), one (slVP (dC 32) a_1.f_Path)] 1 Tryz.isAgg3 q0 rfl rfl) <| ov [502, 500] (op_bin bin_eql q0 q1) <| ov [500] (op_move q0) <| oe [500, 0] [] (GOk.on_eq hb7 rfl rfl rfl (op_fieldAddr_lbm (p := (b1 0)) (n := 1) 0 1 Tryz.underlying46 rfl Tryz.sizeOf27 (by decide) q0 rfl)) <| oe [501, 500, 2] [] (GOk.on_eq hb7 rfl rfl rfl (op_load_lb1 [one (intVP .i64 a_0.f_Index)] [one (slVP (dC 32) a_0.f_Others), one (slVP (dC 32) a_0.f_Path)] 1 Tryz.isAgg27 q0 rfl rfl)) <| oe [502, 1] [] (GOk.on_eq hb7 rfl rfl rfl (op_fieldAddr_lbm (p := (b1 1)) (n := 1) 0 1 Tryz.underlying46 rfl Tryz.sizeOf27 (by decide) q0 rfl)) <| oe [503, 500, 3] [] (GOk.on_eq hb7 rfl rfl rfl (op_load_lb1 [one (intVP .i64 a_1.f_Index)] [one (slVP (dC 32) a_1.f_Others), one (slVP (dC 32) a_1.f_Path)] 1 Tryz.isAgg27 q0 rfl rfl)) <| oe [504, 502, 500] [] (GOk.on_eq hb7 rfl rfl rfl (op_call Tryz.call48 (ref03_SameList_ok hr3) ⟨q0, q1, trivial⟩)) <| ov [505, 500] (op_pick_t hb7 q0 q1) <| ov [500] (op_move q0) <| oe [500, 0] [] (GOk.on_eq hb8 rfl rfl rfl (op_fieldAddr_lbm (p := (b1 0)) (n := 1) 0 2 Tryz.underlying46 rfl Tryz.sizeOf27 (by decide) q0 rfl)) <| oe [501, 500, 2] [] (GOk.on_eq hb8 rfl rfl rfl (op_load_lb1 [one (intVP .i64 a_0.f_Index), one (slVP (dC 32) a_0.f_Parts)] [one (slVP (dC 32) a_0.f_Path)] 1 Tryz.isAgg27 q0 rfl rfl)) <| oe [502, 1] [] (GOk.on_eq hb8 rfl rfl rfl (op_fieldAddr_lbm (p := (b1 1)) (n := 1) 0 2 Tryz.underlying46 rfl Tryz.sizeOf27 (by decide) q0 rfl)) <| oe [503, 500, 3] [] (GOk.on_eq hb8 rfl rfl rfl (op_load_lb1 [one (intVP .i64 a_1.f_Index), one (slVP (dC 32) a_1.f_Parts)] [one (slVP (dC 32) a_1.f_Path)] 1 Tryz.isAgg27 q0 rfl rfl)) <| oe [504, 502, 500] [] (GOk.on_eq hb8 rfl rfl rfl (op_call Tryz.call48 (ref03_SameList_ok hr4) ⟨q0, q1, trivial⟩)) <| ov [505, 500] (op_pick_t hb8 q0 q1) <| ov [500] (op_move q0) <| oe [500] [] (GOk.off_v (want := true) hb9 rfl rfl rfl rfl) <| oe [501] [] (GOk.off_v (want := true) hb9 rfl rfl rfl rfl) <| oe [502] [] (GOk.off_v (want := true) hb9 rfl rfl rfl rfl) <| oe [503] [] (GOk.off_v (want := true) hb9 rfl rfl rfl rfl) <| oe [504] [] (GOk.off_v (want := true) hb9 rfl rfl rfl rfl) <| ov [505] (op_pick_f hb9 q0 qb) <| ov [500] (op_assign q0) .nil) fun _ a w h => ?_
          exact ⟨false, hF, h.sub [0] (by rfl)⟩
      · replace hF := ff_of hb8 hF
        refine reg mixed hn hG h [500] (ov [0] (op_fieldAddr_lbm (p := (b1 0)) (n := 1) 0 0 Tryz.underlying46 rfl Tryz.sizeOf3 (by decide) q0 rfl) <| ov [500, 2] (op_load_lb1 [] [one (slVP (dC 32) a_0.f_Parts), one (slVP (dC 32) a_0.f_Others), one (slVP (dC 32) a_0.f_Path)] 1 Tryz.isAgg3 q0 rfl rfl) <| ov [1] (op_fieldAddr_lbm (p := (b1 1)) (n := 1) 0 0 Tryz.underlying46 rfl Tryz.sizeOf3 (by decide) q0 rfl) <| ov [500, 3] (op_load_lb1 [] [one (slVP (dC 32) a_1.f_Parts), one (slVP (dC 32) a_1.f_Others), one (slVP (dC 32) a_1.f_Path)] 1 Tryz.isAgg3 q0 rfl rfl) <| ov [502, 500] (op_bin bin_eql q0 q1) <| ov [500] (op_move q0) <| oe [500, 0] [] (GOk.on_eq hb7 rfl rfl rfl (op_fieldAddr_lbm (p := (b1 0)) (n := 1) 0 1 Tryz.underlying46 rfl Tryz.sizeOf27 (by decide) q0 rfl)) <| oe [501, 500, 2] [] (GOk.on_eq hb7 rfl rfl rfl (op_load_lb1 [one (intVP .i64 a_0.f_Index)] [one (slVP (dC 32) a_0.f_Others), one (slVP (dC 32) a_0.f_Path)] 1 Tryz.isAgg27 q0 rfl rfl)) <| oe [502, 1] [] (GOk.on_eq hb7 rfl rfl rfl (op_fieldAddr_lbm (p := (b1 1)) (n := 1) 0 1 Tryz.underlying46 rfl Tryz.sizeOf27 (by decide) q0 rfl)) <| oe [503, 500, 3] [] (GOk.on_eq hb7 rfl rfl rfl (op_load_lb1 [one (intVP .i64 a_1.f_Index)] [one (slVP (dC 32) a_1.f_Others), one (slVP (dC 32) a_1.f_Path)] 1 Tryz.isAgg27 q0 rfl rfl)) <| oe [504, 502, 500] [] (GOk.on_eq hb7 rfl rfl rfl (op_call Tryz.call48 (ref03_SameList_ok hr3) ⟨q0, q1, trivial⟩)) <| ov [505, 500] (op_pick_t hb7 q0 q1) <| ov [500] (op_move q0) <| oe [500] [] (GOk.off_v (want := true) hb8 rfl rfl rfl rfl) <| oe [501] [] (GOk.off_v (want := true) hb8 rfl rfl rfl rfl) <| oe [502] [] (GOk.off_v (want := true) hb8 rfl rfl rfl rfl) <| oe [503] [] (GOk.off_v (want := true) hb8 rfl rfl rfl rfl) <| oe [504] [] (GOk.off_v (want := true) hb8 rfl rfl rfl rfl) <| ov [505] (op_pick_f hb8 q0 qb) <| ov [500] (op_move q0) <| oe [500] [] (GOk.off_v (want := true) rfl rfl rfl rfl rfl) <| oe [501] [] (GOk.off_v (want := true) rfl rfl rfl rfl rfl) <| oe [502] [] (GOk.off_v (want := true) rfl rfl rfl rfl rfl) <| oe [503] [] (GOk.off_v (want := true) rfl rfl rfl rfl rfl) <| oe [504] [] (GOk.off_v (want := true) rfl rfl rfl rfl rfl) <| ov [505] (op_pick_f rfl q0 qb) <| ov [500] (op_assign q0) .nil) fun _ a w h => ?_
        exact ⟨false, hF, h.sub [0] (by rfl)⟩
    · replace hF := ff_of hb7 hF
      refine reg mixed hn hG h [500] (ov [0] (op_fieldAddr_lbm (p := (b1 0)) (n := 1) 0 0 Tryz.underlying46 rfl Tryz.sizeOf3 (by decide) q0 rfl) <| ov [500, 2] (op_load_lb1 [] [one (slVP (dC 32) a_0.f_Parts), one (slVP (dC 32) a_0.f_Others), one (slVP (dC 32) a_0.f_Path)] 1 Tryz.isAgg3 q0 rfl rfl) <| ov [1] (op_fieldAddr_lbm (p := (b1 1)) (n := 1) 0 0 Tryz.underlying46 rfl Tryz.sizeOf3 (by decide) q0 rfl) <| ov [500, 3] (op_load_lb1 [] [one (slVP (dC 32) a_1.f_Parts), one (slVP (dC 32) a_1.f_Others), one (slVP (dC 32) a_1.f_Path)] 1 Tryz.isAgg3 q0 rfl rfl) <| ov [502, 500] (op_bin bin_eql q0 q1) <| ov [500] (op_move q0) <| oe [500] [] (GOk.off_v (want := true) hb7 rfl rfl rfl rfl) <| oe [501] [] (GOk.off_v (want := true) hb7 rfl rfl rfl rfl) <| oe [502] [] (GOk.off_v (want := true) hb7 rfl rfl rfl rfl) <| oe [503] [] (GOk.off_v (want := true) hb7 rfl rfl rfl rfl) <| oe [504] [] (GOk.off_v (want := true) hb7 rfl rfl rfl rfl) <| ov [505] (op_pick_f hb7 q0 qb) <| ov [500] (op_move q0) <| oe [500] [] (GOk.off_v (want := true) rfl rfl rfl rfl rfl) <| oe [501] [] (GOk.off_v (want := true) rfl rfl rfl rfl rfl) <| oe [502] [] (GOk.off_v (want := true) rfl rfl rfl rfl rfl) <| oe [503] [] (GOk.off_v (want := true) rfl rfl rfl rfl rfl) <| oe [504] [] (GOk.off_v (want := true) rfl rfl rfl rfl rfl) <| ov [505] (op_pick_f rfl q0 qb) <| ov [500] (op_move q0) <| oe [500] [] (GOk.off_v (want := true) rfl rfl rfl rfl rfl) <| oe [501] [] (GOk.off_v (want := true) rfl rfl rfl rfl rfl) <| oe [502] [] (GOk.off_v (want := true) rfl rfl rfl rfl rfl) <| oe [503] [] (GOk.off_v (want := true) rfl rfl rfl rfl rfl) <| oe [504] [] (GOk.off_v (want := true) rfl rfl rfl rfl rfl) <| ov [505] (op_pick_f rfl q0 qb) <| ov [500] (op_assign q0) .nil) fun _ a w h => ?_
      exact ⟨false, hF, h.sub [0] (by rfl)⟩
  · clear h hF
    rintro a w ⟨x6, hF, h⟩
    unfold ref03_SameSig.j1 at hF
    show Code.wp Tryz.prog _ _ a w
    refine wp_ret ?_
    obtain rfl := Option.some.inj hF
    exact ⟨.inl rfl, ret1 h Tryz.results26 (r_tmp 0 rfl) [] [] rfl rfl rfl⟩

def ref10_Same.j1 (x4 : Bool) : Option Bool := some x4
def ref10_Same (a_0 : S_api_Update) (a_1 : S_api_Update) : Option Bool := (if (decide (a_0.f_Home = a_1.f_Home)) = true then (if (decide (a_0.f_Old = a_1.f_Old)) = true then (if (decide (a_0.f_New = a_1.f_New)) = true then ((ref03_SameSig a_0.f_Sig a_1.f_Sig).bind fun r3 => ref10_Same.j1 r3) else ref10_Same.j1 false) else ref10_Same.j1 false) else ref10_Same.j1 false)
theorem ref10_Same_ok {a_0 : S_api_Update} {a_1 : S_api_Update} {r : Bool} (hF : ref10_Same a_0 a_1 = some r) : CallOk Tryz.prog KG 13 [(aggVP [one (intVP .u32 a_0.f_Home), bytesCk 32 a_0.f_Old, bytesCk 32 a_0.f_New, one (intVP .i64 a_0.f_Sig.f_Index), one (slVP (dC 32) a_0.f_Sig.f_Parts), one (slVP (dC 32) a_0.f_Sig.f_Others), one (slVP (dC 32) a_0.f_Sig.f_Path)]), (aggVP [one (intVP .u32 a_1.f_Home), bytesCk 32 a_1.f_Old, bytesCk 32 a_1.f_New, one (intVP .i64 a_1.f_Sig.f_Index), one (slVP (dC 32) a_1.f_Sig.f_Parts), one (slVP (dC 32) a_1.f_Sig.f_Others), one (slVP (dC 32) a_1.f_Sig.f_Path)])] [] (fun _ => []) (boolVP r) := by
  refine CallOk.intro 31 Tryz.func13 rfl Tryz.ntmps13 (Nat.le_of_ble_eq_true rfl) ?_
  intro c a w hG hn h
  unfold ref10_Same at hF
  change SatL c [.slot 0 (aggVP [one (intVP .u32 a_0.f_Home), bytesCk 32 a_0.f_Old, bytesCk 32 a_0.f_New, one (intVP .i64 a_0.f_Sig.f_Index), one (slVP (dC 32) a_0.f_Sig.f_Parts), one (slVP (dC 32) a_0.f_Sig.f_Others), one (slVP (dC 32) a_0.f_Sig.f_Path)]), .slot 1 (aggVP [one (intVP .u32 a_1.f_Home), bytesCk 32 a_1.f_Old, bytesCk 32 a_1.f_New, one (intVP .i64 a_1.f_Sig.f_Index), one (slVP (dC 32) a_1.f_Sig.f_Parts), one (slVP (dC 32) a_1.f_Sig.f_Others), one (slVP (dC 32) a_1.f_Sig.f_Path)])] a w at h
  refine regS mixed hn hG h [504, 502, 503, 501] (ob [0] (op_box q0 (cells_agg _)) <| ob [1] (op_box q0 (cells_agg _)) <| ov [] (op_assign qb) .nil) fun b1 a w h => ?_
  refine wp_seq ?_
  refine wp_cut (fun a w => ∃ (x4 : Bool), ref10_Same.j1 x4 = some r ∧ SatL c [.slot 4 (boolVP x4)] a w) ?_ ?_
  · rcases Bool.eq_false_or_eq_true (decide (a_0.f_Home = a_1.f_Home)) with hb5 | hb5
    · replace hF := tt_of hb5 hF
      rcases Bool.eq_false_or_eq_true (decide (a_0.f_Old = a_1.f_Old)) with hb6 | hb6
      · replace hF := tt_of hb6 hF
        rcases Bool.eq_false_or_eq_true (decide (a_0.f_New = a_1.f_New)) with hb7 | hb7
        · replace hF := tt_of hb7 hF
          obtain ⟨r3, hr3, hF⟩ := bind_some hF
          refine reg mixed hn hG h [500] (ov [0] (op_fieldAddr_lbm (p := (b1 0)) (n := 1) 0 0 Tryz.underlying48 rfl Tryz.sizeOf31 (by decide) q0 rfl) <| ov [500, 2] (op_load_lb1 [] [bytesCk 32 a_0.f_Old, bytesCk 32 a_0.f_New, one (intVP .i64 a_0.f_Sig.f_Index), one (slVP (dC 32) a_0.f_Sig.f_Parts), one (slVP (dC 32) a_0.f_Sig.f_Others), one (slVP (dC 32) a_0.f_Sig.f_Path)] 1 Tryz.isAgg31 q0 rfl rfl) <| ov [1] (op_fieldAddr_lbm (p := (b1 1)) (n := 1) 0 0 Tryz.underlying48 rfl Tryz.sizeOf31 (by decide) q0 rfl) <| ov [500, 3] (op_load_lb1 [] [bytesCk 32 a_1.f_Old, bytesCk 32 a_1.f_New, one (intVP .i64 a_1.f_Sig.f_Index), one (slVP (dC 32) a_1.f_Sig.f_Parts), one (slVP (dC 32) a_1.f_Sig.f_Others), one (slVP (dC 32) a_1.f_Sig.f_Path)] 1 Tryz.isAgg31 q0 rfl rfl) <| ov [502, 500] (op_bin bin_eql q0 q1) <| ov [500] (op_move q0) <| oe [500, 0] [] (GOk.on_eq hb5 rfl rfl rfl (op_fieldAddr_lbm (p := (b1 0)) (n := 32) 0 1 Tryz.underlying48 rfl Tryz.sizeOf23 (by decide) q0 rfl)) <| oe [501, 500, 2] [] (GOk.on_eq hb5 rfl rfl rfl (op_load_lb [one (intVP .u32 a_0.f_Home)] [bytesCk 32 a_0.f_Old] [bytesCk 32 a_0.f_New, one (intVP .i64 a_0.f_Sig.f_Index), one (slVP (dC 32) a_0.f_Sig.f_Parts), one (slVP (dC 32) a_0.f_Sig.f_Others), one (slVP (dC 32) a_0.f_Sig.f_Path)] 1 Tryz.isAgg23 Tryz.sizeOf23 q0 rfl rfl rfl)) <| oe [502, 1] [] (GOk.on_eq hb5 rfl rfl rfl (op_fieldAddr_lbm (p := (b1 1)) (n := 32) 0 1 Tryz.underlying48 rfl Tryz.sizeOf23 (by decide) q0 rfl)) <| oe [503, 500, 3] [] (GOk.on_eq hb5 rfl rfl rfl (op_load_lb [one (intVP .u32 a_1.f_Home)] [bytesCk 32 a_1.f_Old] [bytesCk 32 a_1.f_New, one (intVP .i64 a_1.f_Sig.f_Index), one (slVP (dC 32) a_1.f_Sig.f_Parts), one (slVP (dC 32) a_1.f_Sig.f_Others), one (slVP (dC 32) a_1.f_Sig.f_Path)] 1 Tryz.isAgg23 Tryz.sizeOf23 q0 rfl rfl rfl)) <| oe [504, 502, 500] [] (GOk.on_eq hb5 rfl rfl rfl (op_bin (bin_aeql Tryz.underlying23 Tryz.underlying5 Tryz.type5 Tryz.sizeOf5 Tryz.isAgg5 Tryz.eqGuardType23) q0 q1)) <| ov [505, 500] (op_pick_t hb5 q0 q1) <| ov [500] (op_move q0) <| oe [500, 0] [] (GOk.on_eq hb6 rfl rfl rfl (op_fieldAddr_lbm (p := (b1 0)) (n := 32) 0 33 Tryz.underlying48 rfl Tryz.sizeOf23 (by decide) q0 rfl)) <| oe [501, 500, 2] [] (GOk.on_eq hb6 rfl rfl rfl (op_load_lb [one (intVP .u32 a_0.f_Home), bytesCk 32 a_0.f_Old] [bytesCk 32 a_0.f_New] [one (intVP .i64 a_0.f_Sig.f_Index), one (slVP (dC 32) a_0.f_Sig.f_Parts), one (slVP (dC 32) a_0.f_Sig.f_Others), one (slVP (dC 32) a_0.f_Sig.f_Path)] 1 Tryz.isAgg23 Tryz.sizeOf23 q0 rfl rfl rfl)) <| oe [502, 1] [] (GOk.on_eq hb6 rfl rfl rfl (op_fieldAddr_lbm (p := (b1 1)) (n := 32) 0 33 Tryz.underlying48 rfl Tryz.sizeOf23 (by decide) q0 rfl)) <| oe [503, 500, 3] [] (GOk.on_eq hb6 rfl rfl rfl (op_load_lb [one (intVP .u32 a_1.f_Home), bytesCk 32 a_1.f_Old] [bytesCk 32 a_1.f_New] [one (intVP .i64 a_1.f_Sig.f_Index), one (slVP (dC 32) a_1.f_Sig.f_Parts), one (slVP (dC 32) a_1.f_Sig.f_Others), one (slVP (dC 32) a_1.f_Sig.f_Path)] 1 Tryz.isAgg23 Tryz.sizeOf23 q0 rfl rfl rfl)) <| oe [504, 502, 500] [] (GOk.on_eq hb6 rfl rfl rfl (op_bin (bin_aeql Tryz.underlying23 Tryz.underlying5 Tryz.type5 Tryz.sizeOf5 Tryz.isAgg5 Tryz.eqGuardType23) q0 q1)) <| ov [505, 500] (op_pick_t hb6 q0 q1) <| ov [500] (op_move q0) <| oe [500, 0] [] (GOk.on_eq hb7 rfl rfl rfl (op_fieldAddr_lbm (p := (b1 0)) (n := 4) 0 65 Tryz.underlying48 rfl Tryz.sizeOf46 (by decide) q0 rfl)) <| oe [501, 500, 2] [] (GOk.on_eq hb7 rfl rfl rfl (op_load_lb [one (intVP .u32 a_0.f_Home), bytesCk 32 a_0.f_Old, bytesCk 32 a_0.f_New] [one (intVP .i64 a_0.f_Sig.f_Index), one (slVP (dC 32) a_0.f_Sig.f_Parts), one (slVP (dC 32) a_0.f_Sig.f_Others), one (slVP (dC 32) a_0.f_Sig.f_Path)] [] 1 Tryz.isAgg46 Tryz.sizeOf46 q0 rfl rfl rfl)) <| oe [502, 1] [] (GOk.on_eq hb7 rfl rfl rfl (op_fieldAddr_lbm (p := (b1 1)) (n := 4) 0 65 Tryz.underlying48 rfl Tryz.sizeOf46 (by decide) q0 rfl)) <| oe [503, 500, 3] [] (GOk.on_eq hb7 rfl rfl rfl (op_load_lb [one (intVP .u32 a_1.f_Home), bytesCk 32 a_1.f_Old, bytesCk 32 a_1.f_New] [one (intVP .i64 a_1.f_Sig.f_Index), one (slVP (dC 32) a_1.f_Sig.f_Parts), one (slVP (dC 32) a_1.f_Sig.f_Others), one (slVP (dC 32) a_1.f_Sig.f_Path)] [] 1 Tryz.isAgg46 Tryz.sizeOf46 q0 rfl rfl rfl)) <| oe [504, 502, 500] [] (GOk.on_eq hb7 rfl rfl rfl (op_call Tryz.call26 (ref03_SameSig_ok hr3) ⟨q0, q1, trivial⟩)) <| ov [505, 500] (op_pick_t hb7 q0 q1) <| ov [500] (op_assign q0) .nil) fun _ a w h => ?_
          exact ⟨r3, hF, h.sub [0] (by rfl)⟩
        · replace hF := ff_of hb7 hF
          refine reg mixed hn hG h [500] (ov [0] (op_fieldAddr_lbm (p := (b1 0)) (n := 1) 0 0 Tryz.underlying48 rfl Tryz.sizeOf31 (by decide) q0 rfl) <| ov [500, 2] (op_load_lb1 [] [bytesCk 32 a_0.f_Old, bytesCk 32 a_0.f_New, one (intVP .i64 a_0.f_Sig.f_Index), one (slVP (dC 32) a_0.f_Sig.f_Parts), one (slVP (dC 32) a_0.f_Sig.f_Others), one (slVP (dC 32) a_0.f_Sig.f_Path)] 1 Tryz.isAgg31 q0 rfl rfl) <| ov [1] (op_fieldAddr_lbm (p := (b1 1)) (n := 1) 0 0 Tryz.underlying48 rfl Tryz.sizeOf31 (by decide) q0 rfl) <| ov [500, 3] (op_load_lb1 [] [bytesCk 32 a_1.f_Old, bytesCk 32 a_1.f_New, one (intVP .i64 a_1.f_Sig.f_Index), one (slVP (dC 32) a_1.f_Sig.f_Parts), one (slVP (dC 32) a_1.f_Sig.f_Others), one (slVP (dC 32) a_1.f_Sig.f_Path)] 1 Tryz.isAgg31 q0 rfl rfl) <| ov [502, 500] (op_bin bin_eql q0 q1) <| ov [500] (op_move q0) <| oe [500, 0] [] (GOk.on_eq hb5 rfl rfl rfl (op_fieldAddr_lbm (p := (b1 0)) (n := 32) 0 1 Tryz.underlying48 rfl Tryz.sizeOf23 (by decide) q0 rfl)) <| oe [501, 500, 2] [] (GOk.on_eq hb5 rfl rfl rfl (op_load_lb [one (intVP .u32 a_0.f_Home)] [bytesCk 32 a_0.f_Old] [bytesCk 32 a_0.f_New, one (intVP .i64 a_0.f_Sig.f_Index), one (slVP (dC 32) a_0.f_Sig.f_Parts), one (slVP (dC 32) a_0.f_Sig.f_Others), one (slVP (dC 32) a_0.f_Sig.f_Path)] 1 Tryz.isAgg23 Tryz.sizeOf23 q0 rfl rfl rfl)) <| oe [502, 1] [] (GOk.on_eq hb5 rfl rfl rfl (op_fieldAddr_lbm (p := (b1 1)) (n := 32) 0 1 Tryz.underlying48 rfl Tryz.sizeOf23 (by decide) q0 rfl)) <| oe [503, 500, 3] [] (GOk.on_eq hb5 rfl rfl rfl (op_load_lb [one (intVP .u32 a_1.f_Home)] [bytesCk 32 a_1.f_Old] [bytesCk 32 a_1.f_New, one (intVP .i64 a_1.f_Sig.f_Index), one (slVP (dC 32) a_1.f_Sig.f_Parts), one (slVP (dC 32) a_1.f_Sig.f_Others), one (slVP (dC 32) a_1.f_Sig.f_Path)] 1 Tryz.isAgg23 Tryz.sizeOf23 q0 rfl rfl rfl)) <| oe [504, 502, 500] [] (GOk.on_eq hb5 rfl rfl rfl (op_bin (bin_aeql Tryz.underlying23 Tryz.underlying5 Tryz.type5 Tryz.sizeOf5 Tryz.isAgg5 Tryz.eqGuardType23) q0 q1)) <| ov [505, 500] (op_pick_t hb5 q0 q1) <| ov [500] (op_move q0) <| oe [500, 0] [] (GOk.on_eq hb6 rfl rfl rfl (op_fieldAddr_lbm (p := (b1 0)) (n := 32) 0 33 Tryz.underlying48 rfl Tryz.sizeOf23 (by decide) q0 rfl)) <| oe [501, 500, 2] [] (GOk.on_eq hb6 rfl rfl rfl (op_load_lb [one (intVP .u32 a_0.f_Home), bytesCk 32 a_0.f_Old] [bytesCk 32 a_0.f_New] [one (intVP .i64 a_0.f_Sig.f_Index), one (slVP (dC 32) a_0.f_Sig.f_Parts), one (slVP (dC 32) a_0.f_Sig.f_Others), one (slVP (dC 32) a_0.f_Sig.f_Path)] 1 Tryz.isAgg23 Tryz.sizeOf23 q0 rfl rfl rfl)) <| oe [502, 1] [] (GOk.on_eq hb6 rfl rfl rfl (op_fieldAddr_lbm (p := (b1 1)) (n := 32) 0 33 Tryz.underlying48 rfl Tryz.sizeOf23 (by decide) q0 rfl)) <| oe [503, 500, 3] [] (GOk.on_eq hb6 rfl rfl rfl (op_load_lb [one (intVP .u32 a_1.f_Home), bytesCk 32 a_1.f_Old] [bytesCk 32 a_1.f_New] [one (intVP .i64 a_1.f_Sig.f_Index), one (slVP (dC 32) a_1.f_Sig.f_Parts), one (slVP (dC 32) a_1.f_Sig.f_Others), one (slVP (dC 32) a_1.f_Sig.f_Path)] 1 Tryz.isAgg23 Tryz.sizeOf23 q0 rfl rfl rfl)) <| oe [504, 502, 500] [] (GOk.on_eq hb6 rfl rfl rfl (op_bin (bin_aeql Tryz.underlying23 Tryz.underlying5 Tryz.type5 Tryz.sizeOf5 Tryz.isAgg5 Tryz.eqGuardType23) q0 q1)) <| ov [505, 500] (op_pick_t hb6 q0 q1) <| ov [500] (op_move q0) <| oe [500] [] (GOk.off_v (want := true) hb7 rfl rfl rfl rfl) <| oe [501] [] (GOk.off_v (want := true) hb7 rfl rfl rfl rfl) <| oe [502] [] (GOk.off_v (want := true) hb7 rfl rfl rfl rfl) <| oe [503] [] (GOk.off_v (want := true) hb7 rfl rfl rfl rfl) <| oe [504] [] (GOk.off_v (want := true) hb7 rfl rfl rfl rfl) <| ov [505] (op_pick_f hb7 q0 qb) <| ov [500] (op_assign q0) .nil) fun _ a w h => ?_
          exact ⟨false, hF, h.sub [0] (by rfl)⟩
      · replace hF := ff_of hb6 hF
        refine reg mixed hn hG h [500] (ov [0] (op_fieldAddr_lbm (p := (b1 0)) (n := 1) 0 0 Tryz.underlying48 rfl Tryz.sizeOf31 (by decide) q0 rfl) <| ov [500, 2] (op_load_lb1 [] [bytesCk 32 a_0.f_Old, bytesCk 32 a_0.f_New, one (intVP .i64 a_0.f_Sig.f_Index), one (slVP (dC 32) a_0.f_Sig.f_Parts), one (slVP (dC 32) a_0.f_Sig.f_Others), one (slVP (dC 32) a_0.f_Sig.f_Path)] 1 Tryz.isAgg31 q0 rfl rfl) <| ov [1] (op_fieldAddr_lbm (p := (b1 1)) (n := 1) 0 0 Tryz.underlying48 rfl Tryz.sizeOf31 (by decide) q0 rfl) <| ov [500, 3] (op_load_lb1 [] [bytesCk 32 a_1.f_Old, bytesCk 32 a_1.f_New, one (intVP .i64 a_1.f_Sig.f_Index), one (slVP (dC 32) a_1.f_Sig.f_Parts), one (slVP (dC 32) a_1.f_Sig.f_Others), one (slVP (dC 32) a_1.f_Sig.f_Path)] 1 Tryz.isAgg31 q0 rfl rfl) <| ov [502, 500] (op_bin bin_eql q0 q1) <| ov [500] (op_move q0) <| oe [500, 0] [] (GOk.on_eq hb5 rfl rfl rfl (op_fieldAddr_lbm (p := (b1 0)) (n := 32) 0 1 Tryz.underlying48 rfl Tryz.sizeOf23 (by decide) q0 rfl)) <| oe [501, 500, 2] [] (GOk.on_eq hb5 rfl rfl rfl (op_load_lb [one (intVP .u32 a_0.f_Home)] [bytesCk 32 a_0.f_Old] [bytesCk 32 a_0.f_New, one (intVP .i64 a_0.f_Sig.f_Index), one (slVP (dC 32) a_0.f_Sig.f_Parts), one (slVP (dC 32) a_0.f_Sig.f_Others), one (slVP (dC 32) a_0.f_Sig.f_Path)] 1 Tryz.isAgg23 Tryz.sizeOf23 q0 rfl rfl rfl)) <| oe [502, 1] [] (GOk.on_eq hb5 rfl rfl rfl (op_fieldAddr_lbm (p := (b1 1)) (n := 32) 0 1 Tryz.underlying48 rfl Tryz.sizeOf23 (by decide) q0 rfl)) <| oe [503, 500, 3] [] (GOk.on_eq hb5 rfl rfl rfl (op_load_lb [one (intVP .u32 a_1.f_Home)] [bytesCk 32 a_1.f_Old] [bytesCk 32 a_1.f_New, one (intVP .i64 a_1.f_Sig.f_Index), one (slVP (dC 32) a_1.f_Sig.f_Parts), one (slVP (dC 32) a_1.f_Sig.f_Others), one (slVP (dC 32) a_1.f_Sig.f_Path)] 1 Tryz.isAgg23 Tryz.sizeOf23 q0 rfl rfl rfl)) <| oe [504, 502, 500] [] (GOk.on_eq hb5 rfl rfl rfl (op_bin (bin_aeql Tryz.underlying23 Tryz.underlying5 Tryz.type5 Tryz.sizeOf5 Tryz.isAgg5 Tryz.eqGuardType23) q0 q1)) <| ov [505, 500] (op_pick_t hb5 q0 q1) <| ov [500] (op_move q0) <| oe [500] [] (GOk.off_v (want := true) hb6 rfl rfl rfl rfl) <| oe [501] [] (GOk.off_v (want := true) hb6 rfl rfl rfl rfl) <| oe [502] [] (GOk.off_v (want := true) hb6 rfl rfl rfl rfl) <| oe [503] [] (GOk.off_v (want := true) hb6 rfl rfl rfl rfl) <| oe [504] [] (GOk.off_v (want := true) hb6 rfl rfl rfl rfl) <| ov [505] (op_pick_f hb6 q0 qb) <| ov [500] (op_move q0) <| oe [500] [] (GOk.off_v (want := true) rfl rfl rfl rfl rfl) <| oe [501] [] (GOk.off_v (want := true) rfl rfl rfl rfl rfl) <| oe [502] [] (GOk.off_v (want := true) rfl rfl rfl rfl rfl) <| oe [503] [] (GOk.off_v (want := true) rfl rfl rfl rfl rfl) <| oe [504] [] (GOk.off_v (want := true) rfl rfl rfl rfl rfl) <| ov [505] (op_pick_f rfl q0 qb) <| ov [500] (op_assign q0) .nil) fun _ a w h => ?_
        exact ⟨false, hF, h.sub [0] (by rfl)⟩
    · replace hF := ff_of hb5 hF
      refine reg mixed hn hG h [500] (ov [0] (op_fieldAddr_lbm (p := (b1 0)) (n := 1) 0 0 Tryz.underlying48 rfl Tryz.sizeOf31 (by decide) q0 rfl) <| ov [500, 2] (op_load_lb1 [] [bytesCk 32 a_0.f_Old, bytesCk 32 a_0.f_New, one (intVP .i64 a_0.f_Sig.f_Index), one (slVP (dC 32) a_0.f_Sig.f_Parts), one (slVP (dC 32) a_0.f_Sig.f_Others), one (slVP (dC 32) a_0.f_Sig.f_Path)] 1 Tryz.isAgg31 q0 rfl rfl) <| ov [1] (op_fieldAddr_lbm (p := (b1 1)) (n := 1) 0 0 Tryz.underlying48 rfl Tryz.sizeOf31 (by decide) q0 rfl) <| ov [500, 3] (op_load_lb1 [] [bytesCk 32 a_1.f_Old, bytesCk 32 a_1.f_New, one (intVP .i64 a_1.f_Sig.f_Index), one (slVP (dC 32) a_1.f_Sig.f_Parts), one (slVP (dC 32) a_1.f_Sig.f_Others), one (slVP (dC 32) a_1.f_Sig.f_Path)] 1 Tryz.isAgg31 q0 rfl rfl) <| ov [502, 500] (op_bin bin_eql q0 q1) <| ov [500] (op_move q0) <| oe [500] [] (GOk.off_v (want := true) hb5 rfl rfl rfl rfl) <| oe [501] [] (GOk.off_v (want := true) hb5 rfl rfl rfl rfl) <| oe [502] [] (GOk.off_v (want := true) hb5 rfl rfl rfl rfl) <| oe [503] [] (GOk.off_v (want := true) hb5 rfl rfl rfl rfl) <| oe [504] [] (GOk.off_v (want := true) hb5 rfl rfl rfl rfl) <| ov [505] (op_pick_f hb5 q0 qb) <| ov [500] (op_move q0) <| oe [500] [] (GOk.off_v (want := true) rfl rfl rfl rfl rfl) <| oe [501] [] (GOk.off_v (want := true) rfl rfl rfl rfl rfl) <| oe [502] [] (GOk.off_v (want := true) rfl rfl rfl rfl rfl) <| oe [503] [] (GOk.off_v (want := true) rfl rfl rfl rfl rfl) <| oe [504] [] (GOk.off_v (want := true) rfl rfl rfl rfl rfl) <| ov [505] (op_pick_f rfl q0 qb) <| ov [500] (op_move q0) <| oe [500] [] (GOk.off_v (want := true) rfl rfl rfl rfl rfl) <| oe [501] [] (GOk.off_v (want := true) rfl rfl rfl rfl rfl) <| oe [502] [] (GOk.off_v (want := true) rfl rfl rfl rfl rfl) <| oe [503] [] (GOk.off_v (want := true) rfl rfl rfl rfl rfl) <| oe [504] [] (GOk.off_v (want := true) rfl rfl rfl rfl rfl) <| ov [505] (op_pick_f rfl q0 qb) <| ov [500] (op_assign q0) .nil) fun _ a w h => ?_
      exact ⟨false, hF, h.sub [0] (by rfl)⟩
  · clear h hF
    rintro a w ⟨x4, hF, h⟩
    unfold ref10_Same.j1 at hF
    show Code.wp Tryz.prog _ _ a w
    refine wp_ret ?_
    obtain rfl := Option.some.inj hF
    exact ⟨.inl rfl, ret1 h Tryz.results13 (r_tmp 0 rfl) [] [] rfl rfl rfl⟩

def replica_open (a_0 : S_api_Replica) : Option Int := (if a_0.f_Failed = true then some 30 else (if a_0.f_Cut = true then some 34 else some 0))
theorem replica_open_ok {a_0 : S_api_Replica} {r : Int} (hF : replica_open a_0 = some r) : CallOk Tryz.prog KG 49 [(aggVP [one (intVP .u32 a_0.f_Chain), one (intVP .u32 a_0.f_Here), bytesCk 32 a_0.f_Updater, one (slVP (dC 32) a_0.f_Watchers), one (intVP .u64 a_0.f_Window), bytesCk 32 a_0.f_Committed, one (slVP S_api_Timed.ck a_0.f_Roots), one (slVP S_api_State.ck a_0.f_States), one (boolVP a_0.f_Failed), one (boolVP a_0.f_Cut)])] [] (fun _ => []) (intVP .i64 r) := by
  refine CallOk.intro 9 Tryz.func49 rfl Tryz.ntmps49 (Nat.le_of_ble_eq_true rfl) ?_
  intro c a w hG hn h
  unfold replica_open at hF
  change SatL c [.slot 0 (aggVP [one (intVP .u32 a_0.f_Chain), one (intVP .u32 a_0.f_Here), bytesCk 32 a_0.f_Updater, one (slVP (dC 32) a_0.f_Watchers), one (intVP .u64 a_0.f_Window), bytesCk 32 a_0.f_Committed, one (slVP S_api_Timed.ck a_0.f_Roots), one (slVP S_api_State.ck a_0.f_States), one (boolVP a_0.f_Failed), one (boolVP a_0.f_Cut)])] a w at h
  refine regS mixed hn hG h [502, 501] (ob [0] (op_box q0 (cells_agg _)) <| ov [] (op_assign qi) .nil) fun b1 a w h => ?_
  refine wp_seq ?_
  refine wp_block ?_
  refine regS mixed hn hG h [0, 500, 1] (ov [0] (op_fieldAddr_lbm (p := (b1 0)) (n := 1) 0 70 Tryz.underlying36 rfl Tryz.sizeOf4 (by decide) q0 rfl) <| ov [500, 1] (op_load_lb1 [one (intVP .u32 a_0.f_Chain), one (intVP .u32 a_0.f_Here), bytesCk 32 a_0.f_Updater, one (slVP (dC 32) a_0.f_Watchers), one (intVP .u64 a_0.f_Window), bytesCk 32 a_0.f_Committed, one (slVP S_api_Timed.ck a_0.f_Roots), one (slVP S_api_State.ck a_0.f_States)] [one (boolVP a_0.f_Cut)] 1 Tryz.isAgg4 q0 rfl rfl) <| ov [500] (op_assign q0) .nil) fun _ a w h => ?_
  refine cnd h hF 1 [] [0, 2] (fun hb2 hF h => ?_) (fun hb2 hF h => ?_)
  · refine regS mixed hn hG h [500] (ov [] (op_assign qi) .nil) fun _ a w h => ?_
    refine wp_ret ?_
    obtain rfl := Option.some.inj hF
    exact ⟨.inl rfl, ret1 h Tryz.results49 (r_tmp 0 rfl) [] [] rfl rfl rfl⟩
  · refine regS mixed hn hG h [500] (ov [0] (op_fieldAddr_lbm (p := (b1 0)) (n := 1) 0 71 Tryz.underlying36 rfl Tryz.sizeOf4 (by decide) q0 rfl) <| ov [500, 1] (op_load_lb1 [one (intVP .u32 a_0.f_Chain), one (intVP .u32 a_0.f_Here), bytesCk 32 a_0.f_Updater, one (slVP (dC 32) a_0.f_Watchers), one (intVP .u64 a_0.f_Window), bytesCk 32 a_0.f_Committed, one (slVP S_api_Timed.ck a_0.f_Roots), one (slVP S_api_State.ck a_0.f_States), one (boolVP a_0.f_Failed)] [] 1 Tryz.isAgg4 q0 rfl rfl) <| ov [500] (op_assign q0) .nil) fun _ a w h => ?_
    refine cnd h hF 0 [] [] (fun hb3 hF h => ?_) (fun hb3 hF h => ?_)
    · refine regS mixed hn hG h [500] (ov [] (op_assign qi) .nil) fun _ a w h => ?_
      refine wp_ret ?_
      obtain rfl := Option.some.inj hF
      exact ⟨.inl rfl, ret1 h Tryz.results49 (r_tmp 0 rfl) [] [] rfl rfl rfl⟩
    · refine wp_skip ?_
      show Code.wp Tryz.prog _ _ a w
      refine regS mixed hn hG h [500] (ov [] (op_assign qi) .nil) fun _ a w h => ?_
      refine wp_ret ?_
      obtain rfl := Option.some.inj hF
      exact ⟨.inl rfl, ret1 h Tryz.results49 (r_tmp 0 rfl) [] [] rfl rfl rfl⟩
end Go.Proofs.YtklikgigjdgjaaaGreatDoorRRR
