/- The functions' Lean twins and contracts, printed by this session's own program: part 4. -/
import Derived.Test.YtamnmljgcmbliaaDoorG3
namespace Go.Proofs.YtamnmljgcmbliaaDoor
open Go Go.RowKit Go.Proofs
set_option maxRecDepth 100000
set_option linter.unusedVariables false
def update_Claim (L_0 : Option O_Log) (a_1 : Int) (a_2 : List UInt8) (a_3 : List UInt8) : Option ((List UInt8) × (Option O_Log)) := ((wire_Word a_1).bind fun r4 => ((wire_Digest a_2).bind fun r5 => ((wire_Digest a_3).bind fun r6 => ((digest_Log_Of L_0 7 [r4, r5, r6]).bind fun r7 => some (r7.1, r7.2)))))
theorem update_Claim_ok {p_0 : Value} {L_0 : Option O_Log} {a_1 : Int} {a_2 : List UInt8} {a_3 : List UInt8} {r : (List UInt8) × (Option O_Log)} (hF : update_Claim L_0 a_1 a_2 a_3 = some r) : CallOk Tryd.prog KG 30 [(eqVP p_0), (intVP .u32 a_1), (aggVP [bytesCk 32 a_2]), (aggVP [bytesCk 32 a_3])] [(Log_e p_0 L_0)] (fun _ => [Log_e p_0 r.2]) (aggVP [bytesCk 32 r.1]) := by
  refine CallOk.intro 18 Tryd.func30 rfl Tryd.ntmps30 (Nat.le_of_ble_eq_true rfl) ?_
  intro c a w hG hn h
  unfold update_Claim at hF
  change SatL c [.slot 0 (eqVP p_0), .slot 1 (intVP .u32 a_1), .slot 2 (aggVP [bytesCk 32 a_2]), .slot 3 (aggVP [bytesCk 32 a_3]), .res (Log_e p_0 L_0)] a w at h
  refine wp_seq ?_
  refine region_do (n := 18) [.slot 6 0 100000 (fun v1_ _ => (lpVP v1_ 0)),
      .res 0 100000 (fun v1_ _ => (lb (v1_) 23 [bytesCk 32 a_2])),
      .slot 7 1 100000 (fun v1_ _ => (lpVP v1_ 0)),
      .res 1 100000 (fun v1_ _ => (lb (v1_) 23 [bytesCk 32 a_3])),
      .slot 8 2 100000 (fun v1_ _ => (lpVP v1_ 0)),
      .res 2 100000 (fun v1_ _ => (lb (v1_) 23 [bytesCk 32 (List.replicate 32 0)]))] [0, 0, 1, 1, 2, 2] [⟨[2], [], [5, 6], [], some 6⟩, ⟨[3], [], [7, 8], [0], some 7⟩, ⟨[], [], [9, 10], [0, 1], some 8⟩] [0, 1, 5, 7, 9, 4, 6, 8, 10] mixed hn hG h (by kernel_rfl) ?_ ?_
  · exact ⟨⟨rfl, fun β => (GOk.plain (op_box (opt 0 rfl) (cells_agg _)) rfl)⟩, ⟨rfl, fun β => (GOk.plain (op_box (opt 0 rfl) (cells_agg _)) rfl)⟩, ⟨rfl, fun β => (GOk.plain (op_alloc Tryd.zeroValue23 z23) rfl)⟩, trivial⟩
  clear h
  intro β a w h
  change SatL c [.slot 0 (eqVP p_0), .slot 1 (intVP .u32 a_1), .slot 6 (lpVP (β 0) 0), .slot 7 (lpVP (β 1) 0), .slot 8 (lpVP (β 2) 0), .res (Log_e p_0 L_0), .res (lb (β 0) 23 [bytesCk 32 a_2]), .res (lb (β 1) 23 [bytesCk 32 a_3]), .res (lb (β 2) 23 [bytesCk 32 (List.replicate 32 0)])] a w at h
  generalize β 0 = p1 at h
  generalize β 1 = p2 at h
  generalize β 2 = p3 at h
  clear β
  show Code.wp Tryd.prog _ _ a w
  refine wp_seq ?_
  obtain ⟨r4, hr4, hF⟩ := bind_some hF
  obtain ⟨r5, hr5, hF⟩ := bind_some hF
  obtain ⟨r6, hr6, hF⟩ := bind_some hF
  obtain ⟨r7, hr7, hF⟩ := bind_some hF
  refine region_do (n := 18) [.slot 9 100000 100000 (fun _ _ => (eqVP p_0)),
      .slot 10 100000 100000 (fun _ _ => (intVP .u32 a_1)),
      .slot 11 100000 100000 (fun _ _ => (strVP r4)),
      .slot 12 100000 100000 (fun _ _ => (aggVP [bytesCk 32 a_2])),
      .slot 13 100000 100000 (fun _ _ => (strVP r5)),
      .slot 14 100000 100000 (fun _ _ => (aggVP [bytesCk 32 a_3])),
      .slot 15 100000 100000 (fun _ _ => (strVP r6)),
      .slot 16 100000 100000 (fun _ _ => (slVP strC [r4, r5, r6])),
      .slot 17 100000 100000 (fun _ _ => (aggVP [bytesCk 32 r7.1])),
      .res 100000 100000 (fun _ _ => (Log_e p_0 r7.2)),
      .res 100000 100000 (fun _ _ => (lb p3 23 [bytesCk 32 r7.1]))] [0, 1, 2, 3, 4, 5, 6, 7, 8, 8, 9] [⟨[0], [], [9], [], some 9⟩, ⟨[1], [], [10], [], some 10⟩, ⟨[10], [], [11], [1], some 11⟩, ⟨[2, 6], [], [12], [], some 12⟩, ⟨[12], [], [13], [1, 2, 3], some 13⟩, ⟨[3, 7], [], [14], [], some 14⟩, ⟨[14], [], [15], [1, 2, 3, 4, 5], some 15⟩, ⟨[11, 13, 15], [], [16], [1, 2, 3, 4, 5, 6], some 16⟩, ⟨[9, 16], [5], [17, 18], [0, 1, 2, 3, 4, 5, 6, 7], some 17⟩, ⟨[4, 17], [8], [19], [0, 1, 2, 3, 4, 5, 6, 7, 8], none⟩] [4, 19, 18] mixed hn hG h (by kernel_rfl) ?_ ?_
  · exact ⟨⟨rfl, fun β => (GOk.plain (op_move (opt 0 rfl)) rfl)⟩, ⟨rfl, fun β => (GOk.plain (op_move (opt 0 rfl)) rfl)⟩, ⟨rfl, fun β => (GOk.plain (op_call Tryd.call63 (wire_Word_ok hr4) ⟨(opt 0 rfl), trivial⟩) rfl)⟩, ⟨rfl, fun β => (GOk.plain (op_load_lb [] [bytesCk 32 a_2] [] 1 Tryd.isAgg23 Tryd.sizeOf23 (opt 0 rfl) rfl rfl rfl) rfl)⟩, ⟨rfl, fun β => (GOk.plain (op_call Tryd.call64 (wire_Digest_ok hr5) ⟨(opt 0 rfl), trivial⟩) rfl)⟩, ⟨rfl, fun β => (GOk.plain (op_load_lb [] [bytesCk 32 a_3] [] 1 Tryd.isAgg23 Tryd.sizeOf23 (opt 0 rfl) rfl rfl rfl) rfl)⟩, ⟨rfl, fun β => (GOk.plain (op_call Tryd.call64 (wire_Digest_ok hr6) ⟨(opt 0 rfl), trivial⟩) rfl)⟩, ⟨rfl, fun β => (GOk.plain (op_lit (xs := [.tmp 11, .tmp 13, .tmp 15]) (ys := [r4, r5, r6]) _ rfl Tryd.underlying101 Tryd.sizeOf9 Tryd.zeroValue9 rfl rfl (by decide) (by decide) ⟨⟨_, (opt 0 rfl), (cells_one (one_str _))⟩, ⟨_, (opt 1 rfl), (cells_one (one_str _))⟩, ⟨_, (opt 2 rfl), (cells_one (one_str _))⟩, trivial⟩ lens_strC) rfl)⟩, ⟨rfl, fun β => (GOk.plain (op_call Tryd.call62 (digest_Log_Of_ok hr7) ⟨(opt 0 rfl), (opc (ic (by decide))), (opt 1 rfl), trivial⟩) rfl)⟩, ⟨rfl, fun β => (GOk.plain (op_store_lb [] [bytesCk 32 (List.replicate 32 0)] [] [bytesCk 32 r7.1] Tryd.sizeOf23 (opt 0 rfl) (opt 1 rfl) (cells_agg _) rfl rfl rfl) rfl)⟩, trivial⟩
  clear h
  intro β a w h
  change SatL c [.slot 8 (lpVP p3 0), .res (lb p3 23 [bytesCk 32 r7.1]), .res (Log_e p_0 r7.2)] a w at h
  clear β
  show Code.wp Tryd.prog _ _ a w
  refine wp_ret ?_
  obtain rfl := Option.some.inj hF
  exact ⟨.inl rfl, ret1 h Tryd.results30 (r_cell 0 1 rfl rfl Tryd.isAgg23 Tryd.sizeOf23 rfl) [2] [(Log_e p_0 r7.2)] rfl rfl rfl⟩

def update_Sign (L_0 : Option O_Log) (a_1 : S_keys_Signer) (a_2 : Int) (a_3 : List UInt8) (a_4 : List UInt8) : Option (S_keys_Signer × S_api_Update × Int × (Option O_Log)) := ((update_Claim L_0 a_2 a_3 a_4).bind fun r6 => ((keys_Signer_Sign a_1 r6.2 r6.1).bind fun r7 => (if (!decide (r7.2.2.1 = (0 : Int))) = true then some (a_1, (S_api_Update.mk (0 : Int) (List.replicate 32 0) (List.replicate 32 0) (S_api_Sig.mk (0 : Int) [] [] [])), r7.2.2.1, r7.2.2.2) else some (r7.1, (S_api_Update.mk a_2 a_3 a_4 r7.2.1), 0, r7.2.2.2))))
theorem update_Sign_ok {p_0 : Value} {L_0 : Option O_Log} {a_1 : S_keys_Signer} {a_2 : Int} {a_3 : List UInt8} {a_4 : List UInt8} {r : S_keys_Signer × S_api_Update × Int × (Option O_Log)} (hF : update_Sign L_0 a_1 a_2 a_3 a_4 = some r) : CallOk Tryd.prog KG 26 [(eqVP p_0), (aggVP [bytesCk 32 a_1.f_Seed, one (intVP .i64 a_1.f_Next), one (slVP (dC 32) a_1.f_Leaves)]), (intVP .u32 a_2), (aggVP [bytesCk 32 a_3]), (aggVP [bytesCk 32 a_4])] [(Log_e p_0 L_0)] (fun _ => [Log_e p_0 r.2.2.2]) (tupVP [(aggVP [bytesCk 32 r.1.f_Seed, one (intVP .i64 r.1.f_Next), one (slVP (dC 32) r.1.f_Leaves)]), (aggVP [one (intVP .u32 r.2.1.f_Home), bytesCk 32 r.2.1.f_Old, bytesCk 32 r.2.1.f_New, one (intVP .i64 r.2.1.f_Sig.f_Index), one (slVP (dC 32) r.2.1.f_Sig.f_Parts), one (slVP (dC 32) r.2.1.f_Sig.f_Others), one (slVP (dC 32) r.2.1.f_Sig.f_Path)]), (intVP .i64 r.2.2.1)]) := by
  refine CallOk.intro 39 Tryd.func26 rfl Tryd.ntmps26 (Nat.le_of_ble_eq_true rfl) ?_
  intro c a w hG hn h
  unfold update_Sign at hF
  change SatL c [.slot 0 (eqVP p_0), .slot 1 (aggVP [bytesCk 32 a_1.f_Seed, one (intVP .i64 a_1.f_Next), one (slVP (dC 32) a_1.f_Leaves)]), .slot 2 (intVP .u32 a_2), .slot 3 (aggVP [bytesCk 32 a_3]), .slot 4 (aggVP [bytesCk 32 a_4]), .res (Log_e p_0 L_0)] a w at h
  refine wp_seq ?_
  refine region_do (n := 39) [.slot 6 0 100000 (fun v1_ _ => (lpVP v1_ 0)),
      .res 0 100000 (fun v1_ _ => (lb (v1_) 27 [bytesCk 32 a_1.f_Seed, one (intVP .i64 a_1.f_Next), one (slVP (dC 32) a_1.f_Leaves)])),
      .slot 8 1 100000 (fun v1_ _ => (lpVP v1_ 0)),
      .res 1 100000 (fun v1_ _ => (lb (v1_) 23 [bytesCk 32 a_3])),
      .slot 9 2 100000 (fun v1_ _ => (lpVP v1_ 0)),
      .res 2 100000 (fun v1_ _ => (lb (v1_) 23 [bytesCk 32 a_4])),
      .slot 10 3 100000 (fun v1_ _ => (lpVP v1_ 0)),
      .res 3 100000 (fun v1_ _ => (lb (v1_) 27 [bytesCk 32 ((S_keys_Signer.mk (List.replicate 32 0) (0 : Int) []).f_Seed), one (intVP .i64 ((S_keys_Signer.mk (List.replicate 32 0) (0 : Int) []).f_Next)), one (slVP (dC 32) ((S_keys_Signer.mk (List.replicate 32 0) (0 : Int) []).f_Leaves))])),
      .slot 11 4 100000 (fun v1_ _ => (lpVP v1_ 0)),
      .res 4 100000 (fun v1_ _ => (lb (v1_) 53 [one (intVP .u32 ((S_api_Update.mk (0 : Int) (List.replicate 32 0) (List.replicate 32 0) (S_api_Sig.mk (0 : Int) [] [] [])).f_Home)), bytesCk 32 ((S_api_Update.mk (0 : Int) (List.replicate 32 0) (List.replicate 32 0) (S_api_Sig.mk (0 : Int) [] [] [])).f_Old), bytesCk 32 ((S_api_Update.mk (0 : Int) (List.replicate 32 0) (List.replicate 32 0) (S_api_Sig.mk (0 : Int) [] [] [])).f_New), one (intVP .i64 (((S_api_Update.mk (0 : Int) (List.replicate 32 0) (List.replicate 32 0) (S_api_Sig.mk (0 : Int) [] [] [])).f_Sig).f_Index)), one (slVP (dC 32) (((S_api_Update.mk (0 : Int) (List.replicate 32 0) (List.replicate 32 0) (S_api_Sig.mk (0 : Int) [] [] [])).f_Sig).f_Parts)), one (slVP (dC 32) (((S_api_Update.mk (0 : Int) (List.replicate 32 0) (List.replicate 32 0) (S_api_Sig.mk (0 : Int) [] [] [])).f_Sig).f_Others)), one (slVP (dC 32) (((S_api_Update.mk (0 : Int) (List.replicate 32 0) (List.replicate 32 0) (S_api_Sig.mk (0 : Int) [] [] [])).f_Sig).f_Path))])),
      .slot 12 100000 100000 (fun _ _ => (intVP .i64 0))] [0, 0, 1, 1, 2, 2, 3, 3, 4, 4, 5] [⟨[1], [], [6, 7], [], some 6⟩, ⟨[3], [], [8, 9], [0], some 8⟩, ⟨[4], [], [10, 11], [0, 1], some 9⟩, ⟨[], [], [12, 13], [0, 1, 2], some 10⟩, ⟨[], [], [14, 15], [0, 1, 2, 3], some 11⟩, ⟨[], [], [16], [0, 1, 2, 3, 4], some 12⟩] [0, 2, 6, 8, 10, 12, 14, 5, 7, 9, 11, 13, 15] mixed hn hG h (by kernel_rfl) ?_ ?_
  · exact ⟨⟨rfl, fun β => (GOk.plain (op_box (opt 0 rfl) (cells_agg _)) rfl)⟩, ⟨rfl, fun β => (GOk.plain (op_box (opt 0 rfl) (cells_agg _)) rfl)⟩, ⟨rfl, fun β => (GOk.plain (op_box (opt 0 rfl) (cells_agg _)) rfl)⟩, ⟨rfl, fun β => (GOk.plain (op_alloc Tryd.zeroValue27 z27) rfl)⟩, ⟨rfl, fun β => (GOk.plain (op_alloc Tryd.zeroValue53 z53) rfl)⟩, ⟨rfl, fun β => (GOk.plain (op_assign (opc (ic (by decide)))) rfl)⟩, trivial⟩
  clear h
  intro β a w h
  change SatL c [.slot 0 (eqVP p_0), .slot 2 (intVP .u32 a_2), .slot 6 (lpVP (β 0) 0), .slot 8 (lpVP (β 1) 0), .slot 9 (lpVP (β 2) 0), .slot 10 (lpVP (β 3) 0), .slot 11 (lpVP (β 4) 0), .res (Log_e p_0 L_0), .res (lb (β 0) 27 [bytesCk 32 a_1.f_Seed, one (intVP .i64 a_1.f_Next), one (slVP (dC 32) a_1.f_Leaves)]), .res (lb (β 1) 23 [bytesCk 32 a_3]), .res (lb (β 2) 23 [bytesCk 32 a_4]), .res (lb (β 3) 27 [bytesCk 32 ((S_keys_Signer.mk (List.replicate 32 0) (0 : Int) []).f_Seed), one (intVP .i64 ((S_keys_Signer.mk (List.replicate 32 0) (0 : Int) []).f_Next)), one (slVP (dC 32) ((S_keys_Signer.mk (List.replicate 32 0) (0 : Int) []).f_Leaves))]), .res (lb (β 4) 53 [one (intVP .u32 ((S_api_Update.mk (0 : Int) (List.replicate 32 0) (List.replicate 32 0) (S_api_Sig.mk (0 : Int) [] [] [])).f_Home)), bytesCk 32 ((S_api_Update.mk (0 : Int) (List.replicate 32 0) (List.replicate 32 0) (S_api_Sig.mk (0 : Int) [] [] [])).f_Old), bytesCk 32 ((S_api_Update.mk (0 : Int) (List.replicate 32 0) (List.replicate 32 0) (S_api_Sig.mk (0 : Int) [] [] [])).f_New), one (intVP .i64 (((S_api_Update.mk (0 : Int) (List.replicate 32 0) (List.replicate 32 0) (S_api_Sig.mk (0 : Int) [] [] [])).f_Sig).f_Index)), one (slVP (dC 32) (((S_api_Update.mk (0 : Int) (List.replicate 32 0) (List.replicate 32 0) (S_api_Sig.mk (0 : Int) [] [] [])).f_Sig).f_Parts)), one (slVP (dC 32) (((S_api_Update.mk (0 : Int) (List.replicate 32 0) (List.replicate 32 0) (S_api_Sig.mk (0 : Int) [] [] [])).f_Sig).f_Others)), one (slVP (dC 32) (((S_api_Update.mk (0 : Int) (List.replicate 32 0) (List.replicate 32 0) (S_api_Sig.mk (0 : Int) [] [] [])).f_Sig).f_Path))])] a w at h
  generalize β 0 = p1 at h
  generalize β 1 = p2 at h
  generalize β 2 = p3 at h
  generalize β 3 = p4 at h
  generalize β 4 = p5 at h
  clear β
  show Code.wp Tryd.prog _ _ a w
  refine wp_seq ?_
  obtain ⟨r6, hr6, hF⟩ := bind_some hF
  obtain ⟨r7, hr7, hF⟩ := bind_some hF
  refine region_do (n := 39) [.slot 17 100000 100000 (fun _ _ => (aggVP [bytesCk 32 a_1.f_Seed, one (intVP .i64 a_1.f_Next), one (slVP (dC 32) a_1.f_Leaves)])),
      .slot 18 100000 100000 (fun _ _ => (eqVP p_0)),
      .slot 19 100000 100000 (fun _ _ => (eqVP p_0)),
      .slot 20 100000 100000 (fun _ _ => (intVP .u32 a_2)),
      .slot 21 100000 100000 (fun _ _ => (aggVP [bytesCk 32 a_3])),
      .slot 22 100000 100000 (fun _ _ => (aggVP [bytesCk 32 a_4])),
      .slot 23 100000 100000 (fun _ _ => (aggVP [bytesCk 32 r6.1])),
      .res 100000 100000 (fun _ _ => (Log_e p_0 r6.2)),
      .slot 24 100000 100000 (fun _ _ => (tupVP [(aggVP [bytesCk 32 r7.1.f_Seed, one (intVP .i64 r7.1.f_Next), one (slVP (dC 32) r7.1.f_Leaves)]), (aggVP [one (intVP .i64 r7.2.1.f_Index), one (slVP (dC 32) r7.2.1.f_Parts), one (slVP (dC 32) r7.2.1.f_Others), one (slVP (dC 32) r7.2.1.f_Path)]), (intVP .i64 r7.2.2.1)])),
      .res 100000 100000 (fun _ _ => (Log_e p_0 r7.2.2.2)),
      .slot 16 100000 100000 (fun _ _ => (tupVP [(aggVP [bytesCk 32 r7.1.f_Seed, one (intVP .i64 r7.1.f_Next), one (slVP (dC 32) r7.1.f_Leaves)]), (aggVP [one (intVP .i64 r7.2.1.f_Index), one (slVP (dC 32) r7.2.1.f_Parts), one (slVP (dC 32) r7.2.1.f_Others), one (slVP (dC 32) r7.2.1.f_Path)]), (intVP .i64 r7.2.2.1)])),
      .slot 25 100000 100000 (fun _ _ => (aggVP [bytesCk 32 r7.1.f_Seed, one (intVP .i64 r7.1.f_Next), one (slVP (dC 32) r7.1.f_Leaves)])),
      .slot 26 100000 100000 (fun _ _ => (aggVP [one (intVP .i64 r7.2.1.f_Index), one (slVP (dC 32) r7.2.1.f_Parts), one (slVP (dC 32) r7.2.1.f_Others), one (slVP (dC 32) r7.2.1.f_Path)])),
      .slot 27 100000 100000 (fun _ _ => (intVP .i64 r7.2.2.1)),
      .slot 13 12 100000 (fun v1_ _ => (lpVP v1_ 0)),
      .res 12 100000 (fun v1_ _ => (lb (v1_) 27 [bytesCk 32 ((S_keys_Signer.mk (List.replicate 32 0) (0 : Int) []).f_Seed), one (intVP .i64 ((S_keys_Signer.mk (List.replicate 32 0) (0 : Int) []).f_Next)), one (slVP (dC 32) ((S_keys_Signer.mk (List.replicate 32 0) (0 : Int) []).f_Leaves))])),
      .slot 14 13 100000 (fun v1_ _ => (lpVP v1_ 0)),
      .res 13 100000 (fun v1_ _ => (lb (v1_) 31 [one (intVP .i64 ((S_api_Sig.mk (0 : Int) [] [] []).f_Index)), one (slVP (dC 32) ((S_api_Sig.mk (0 : Int) [] [] []).f_Parts)), one (slVP (dC 32) ((S_api_Sig.mk (0 : Int) [] [] []).f_Others)), one (slVP (dC 32) ((S_api_Sig.mk (0 : Int) [] [] []).f_Path))])),
      .res 12 100000 (fun v1_ _ => (lb (v1_) 27 [bytesCk 32 r7.1.f_Seed, one (intVP .i64 r7.1.f_Next), one (slVP (dC 32) r7.1.f_Leaves)])),
      .res 13 100000 (fun v1_ _ => (lb (v1_) 31 [one (intVP .i64 r7.2.1.f_Index), one (slVP (dC 32) r7.2.1.f_Parts), one (slVP (dC 32) r7.2.1.f_Others), one (slVP (dC 32) r7.2.1.f_Path)])),
      .slot 15 100000 100000 (fun _ _ => (intVP .i64 r7.2.2.1))] [0, 1, 2, 3, 4, 5, 6, 6, 7, 7, 8, 9, 10, 11, 12, 12, 13, 13, 14, 15, 16] [⟨[2, 8], [], [13], [], some 17⟩, ⟨[0], [], [14], [], some 18⟩, ⟨[0], [], [15], [], some 19⟩, ⟨[1], [], [16], [], some 20⟩, ⟨[3, 9], [], [17], [], some 21⟩, ⟨[4, 10], [], [18], [], some 22⟩, ⟨[15, 16, 17, 18], [7], [19, 20], [2, 3, 4, 5], some 23⟩, ⟨[13, 14, 19], [20], [21, 22], [0, 1, 2, 3, 4, 5, 6], some 24⟩, ⟨[21], [], [23], [0, 1, 2, 3, 4, 5, 6, 7], some 16⟩, ⟨[23], [], [24], [0, 1, 2, 3, 4, 5, 6, 7, 8], some 25⟩, ⟨[23], [], [25], [0, 1, 2, 3, 4, 5, 6, 7, 8], some 26⟩, ⟨[23], [], [26], [0, 1, 2, 3, 4, 5, 6, 7, 8], some 27⟩, ⟨[], [], [27, 28], [], some 13⟩, ⟨[], [], [29, 30], [], some 14⟩, ⟨[27, 24], [28], [31], [0, 1, 2, 3, 4, 5, 6, 7, 8, 9, 12, 13], none⟩, ⟨[29, 25], [30], [32], [0, 1, 2, 3, 4, 5, 6, 7, 8, 9, 10, 12, 13, 14], none⟩, ⟨[26], [], [33], [0, 1, 2, 3, 4, 5, 6, 7, 8, 9, 10, 11, 12, 13, 14, 15], some 15⟩] [1, 2, 3, 4, 5, 6, 27, 29, 33, 8, 9, 10, 11, 12, 22, 31, 32] mixed hn hG h (by kernel_rfl) ?_ ?_
  · exact ⟨⟨rfl, fun β => (GOk.plain (op_load_lb [] [bytesCk 32 a_1.f_Seed, one (intVP .i64 a_1.f_Next), one (slVP (dC 32) a_1.f_Leaves)] [] 1 Tryd.isAgg27 Tryd.sizeOf27 (opt 0 rfl) rfl rfl rfl) rfl)⟩, ⟨rfl, fun β => (GOk.plain (op_move (opt 0 rfl)) rfl)⟩, ⟨rfl, fun β => (GOk.plain (op_move (opt 0 rfl)) rfl)⟩, ⟨rfl, fun β => (GOk.plain (op_move (opt 0 rfl)) rfl)⟩, ⟨rfl, fun β => (GOk.plain (op_load_lb [] [bytesCk 32 a_3] [] 1 Tryd.isAgg23 Tryd.sizeOf23 (opt 0 rfl) rfl rfl rfl) rfl)⟩, ⟨rfl, fun β => (GOk.plain (op_load_lb [] [bytesCk 32 a_4] [] 1 Tryd.isAgg23 Tryd.sizeOf23 (opt 0 rfl) rfl rfl rfl) rfl)⟩, ⟨rfl, fun β => (GOk.plain (op_call Tryd.call30 (update_Claim_ok hr6) ⟨(opt 0 rfl), (opt 1 rfl), (opt 2 rfl), (opt 3 rfl), trivial⟩) rfl)⟩, ⟨rfl, fun β => (GOk.plain (op_call Tryd.call14 (keys_Signer_Sign_ok hr7) ⟨(opt 0 rfl), (opt 1 rfl), (opt 2 rfl), trivial⟩) rfl)⟩, ⟨rfl, fun β => (GOk.plain (op_move (opt 0 rfl)) rfl)⟩, ⟨rfl, fun β => (GOk.plain (op_extract (opt 0 rfl) rfl) rfl)⟩, ⟨rfl, fun β => (GOk.plain (op_extract (opt 0 rfl) rfl) rfl)⟩, ⟨rfl, fun β => (GOk.plain (op_extract (opt 0 rfl) rfl) rfl)⟩, ⟨rfl, fun β => (GOk.plain (op_alloc Tryd.zeroValue27 z27) rfl)⟩, ⟨rfl, fun β => (GOk.plain (op_alloc Tryd.zeroValue31 z31) rfl)⟩, ⟨rfl, fun β => (GOk.plain (op_store_lb [] [bytesCk 32 ((S_keys_Signer.mk (List.replicate 32 0) (0 : Int) []).f_Seed), one (intVP .i64 ((S_keys_Signer.mk (List.replicate 32 0) (0 : Int) []).f_Next)), one (slVP (dC 32) ((S_keys_Signer.mk (List.replicate 32 0) (0 : Int) []).f_Leaves))] [] [bytesCk 32 r7.1.f_Seed, one (intVP .i64 r7.1.f_Next), one (slVP (dC 32) r7.1.f_Leaves)] Tryd.sizeOf27 (opt 0 rfl) (opt 1 rfl) (cells_agg _) rfl rfl rfl) rfl)⟩, ⟨rfl, fun β => (GOk.plain (op_store_lb [] [one (intVP .i64 ((S_api_Sig.mk (0 : Int) [] [] []).f_Index)), one (slVP (dC 32) ((S_api_Sig.mk (0 : Int) [] [] []).f_Parts)), one (slVP (dC 32) ((S_api_Sig.mk (0 : Int) [] [] []).f_Others)), one (slVP (dC 32) ((S_api_Sig.mk (0 : Int) [] [] []).f_Path))] [] [one (intVP .i64 r7.2.1.f_Index), one (slVP (dC 32) r7.2.1.f_Parts), one (slVP (dC 32) r7.2.1.f_Others), one (slVP (dC 32) r7.2.1.f_Path)] Tryd.sizeOf31 (opt 0 rfl) (opt 1 rfl) (cells_agg _) rfl rfl rfl) rfl)⟩, ⟨rfl, fun β => (GOk.plain (op_assign (opt 0 rfl)) rfl)⟩, trivial⟩
  clear h
  intro β a w h
  change SatL c [.slot 2 (intVP .u32 a_2), .slot 6 (lpVP p1 0), .slot 8 (lpVP p2 0), .slot 9 (lpVP p3 0), .slot 10 (lpVP p4 0), .slot 11 (lpVP p5 0), .slot 13 (lpVP (β 12) 0), .slot 14 (lpVP (β 13) 0), .slot 15 (intVP .i64 r7.2.2.1), .res (lb p1 27 [bytesCk 32 a_1.f_Seed, one (intVP .i64 a_1.f_Next), one (slVP (dC 32) a_1.f_Leaves)]), .res (lb p2 23 [bytesCk 32 a_3]), .res (lb p3 23 [bytesCk 32 a_4]), .res (lb p4 27 [bytesCk 32 ((S_keys_Signer.mk (List.replicate 32 0) (0 : Int) []).f_Seed), one (intVP .i64 ((S_keys_Signer.mk (List.replicate 32 0) (0 : Int) []).f_Next)), one (slVP (dC 32) ((S_keys_Signer.mk (List.replicate 32 0) (0 : Int) []).f_Leaves))]), .res (lb p5 53 [one (intVP .u32 ((S_api_Update.mk (0 : Int) (List.replicate 32 0) (List.replicate 32 0) (S_api_Sig.mk (0 : Int) [] [] [])).f_Home)), bytesCk 32 ((S_api_Update.mk (0 : Int) (List.replicate 32 0) (List.replicate 32 0) (S_api_Sig.mk (0 : Int) [] [] [])).f_Old), bytesCk 32 ((S_api_Update.mk (0 : Int) (List.replicate 32 0) (List.replicate 32 0) (S_api_Sig.mk (0 : Int) [] [] [])).f_New), one (intVP .i64 (((S_api_Update.mk (0 : Int) (List.replicate 32 0) (List.replicate 32 0) (S_api_Sig.mk (0 : Int) [] [] [])).f_Sig).f_Index)), one (slVP (dC 32) (((S_api_Update.mk (0 : Int) (List.replicate 32 0) (List.replicate 32 0) (S_api_Sig.mk (0 : Int) [] [] [])).f_Sig).f_Parts)), one (slVP (dC 32) (((S_api_Update.mk (0 : Int) (List.replicate 32 0) (List.replicate 32 0) (S_api_Sig.mk (0 : Int) [] [] [])).f_Sig).f_Others)), one (slVP (dC 32) (((S_api_Update.mk (0 : Int) (List.replicate 32 0) (List.replicate 32 0) (S_api_Sig.mk (0 : Int) [] [] [])).f_Sig).f_Path))]), .res (Log_e p_0 r7.2.2.2), .res (lb (β 12) 27 [bytesCk 32 r7.1.f_Seed, one (intVP .i64 r7.1.f_Next), one (slVP (dC 32) r7.1.f_Leaves)]), .res (lb (β 13) 31 [one (intVP .i64 r7.2.1.f_Index), one (slVP (dC 32) r7.2.1.f_Parts), one (slVP (dC 32) r7.2.1.f_Others), one (slVP (dC 32) r7.2.1.f_Path)])] a w at h
  generalize β 12 = p8 at h
  generalize β 13 = p9 at h
  clear β
  show Code.wp Tryd.prog _ _ a w
  refine wp_seq ?_
  refine wp_seq ?_
  refine region_do (n := 39) [.slot 28 100000 100000 (fun _ _ => (intVP .i64 r7.2.2.1)),
      .slot 29 100000 100000 (fun _ _ => (boolVP (!decide (r7.2.2.1 = (0 : Int)))))] [0, 1] [⟨[8], [], [17], [], some 28⟩, ⟨[17], [], [18], [0], some 29⟩] [0, 1, 2, 3, 4, 5, 6, 7, 8, 18, 9, 10, 11, 12, 13, 14, 15, 16] mixed hn hG h (by kernel_rfl) ?_ ?_
  · exact ⟨⟨rfl, fun β => (GOk.plain (op_move (opt 0 rfl)) rfl)⟩, ⟨rfl, fun β => (GOk.plain (op_bin bin_neq (opt 0 rfl) (opc (ic (by decide)))) rfl)⟩, trivial⟩
  clear h
  intro β a w h
  change SatL c [.slot 2 (intVP .u32 a_2), .slot 6 (lpVP p1 0), .slot 8 (lpVP p2 0), .slot 9 (lpVP p3 0), .slot 10 (lpVP p4 0), .slot 11 (lpVP p5 0), .slot 13 (lpVP p8 0), .slot 14 (lpVP p9 0), .slot 15 (intVP .i64 r7.2.2.1), .slot 29 (boolVP (!decide (r7.2.2.1 = (0 : Int)))), .res (lb p1 27 [bytesCk 32 a_1.f_Seed, one (intVP .i64 a_1.f_Next), one (slVP (dC 32) a_1.f_Leaves)]), .res (lb p2 23 [bytesCk 32 a_3]), .res (lb p3 23 [bytesCk 32 a_4]), .res (lb p4 27 [bytesCk 32 ((S_keys_Signer.mk (List.replicate 32 0) (0 : Int) []).f_Seed), one (intVP .i64 ((S_keys_Signer.mk (List.replicate 32 0) (0 : Int) []).f_Next)), one (slVP (dC 32) ((S_keys_Signer.mk (List.replicate 32 0) (0 : Int) []).f_Leaves))]), .res (lb p5 53 [one (intVP .u32 ((S_api_Update.mk (0 : Int) (List.replicate 32 0) (List.replicate 32 0) (S_api_Sig.mk (0 : Int) [] [] [])).f_Home)), bytesCk 32 ((S_api_Update.mk (0 : Int) (List.replicate 32 0) (List.replicate 32 0) (S_api_Sig.mk (0 : Int) [] [] [])).f_Old), bytesCk 32 ((S_api_Update.mk (0 : Int) (List.replicate 32 0) (List.replicate 32 0) (S_api_Sig.mk (0 : Int) [] [] [])).f_New), one (intVP .i64 (((S_api_Update.mk (0 : Int) (List.replicate 32 0) (List.replicate 32 0) (S_api_Sig.mk (0 : Int) [] [] [])).f_Sig).f_Index)), one (slVP (dC 32) (((S_api_Update.mk (0 : Int) (List.replicate 32 0) (List.replicate 32 0) (S_api_Sig.mk (0 : Int) [] [] [])).f_Sig).f_Parts)), one (slVP (dC 32) (((S_api_Update.mk (0 : Int) (List.replicate 32 0) (List.replicate 32 0) (S_api_Sig.mk (0 : Int) [] [] [])).f_Sig).f_Others)), one (slVP (dC 32) (((S_api_Update.mk (0 : Int) (List.replicate 32 0) (List.replicate 32 0) (S_api_Sig.mk (0 : Int) [] [] [])).f_Sig).f_Path))]), .res (Log_e p_0 r7.2.2.2), .res (lb p8 27 [bytesCk 32 r7.1.f_Seed, one (intVP .i64 r7.1.f_Next), one (slVP (dC 32) r7.1.f_Leaves)]), .res (lb p9 31 [one (intVP .i64 r7.2.1.f_Index), one (slVP (dC 32) r7.2.1.f_Parts), one (slVP (dC 32) r7.2.1.f_Others), one (slVP (dC 32) r7.2.1.f_Path)])] a w at h
  clear β
  show Code.wp Tryd.prog _ _ a w
  refine cond_L h 9 rfl (fun hb10 => ?_) (fun hb10 => ?_)
  · replace hF := tt_of hb10 hF
    replace h := h.sub [1, 4, 5, 8, 10, 13, 14, 15] (by rfl)
    change SatL c [.slot 6 (lpVP p1 0), .slot 10 (lpVP p4 0), .slot 11 (lpVP p5 0), .slot 15 (intVP .i64 r7.2.2.1), .res (lb p1 27 [bytesCk 32 a_1.f_Seed, one (intVP .i64 a_1.f_Next), one (slVP (dC 32) a_1.f_Leaves)]), .res (lb p4 27 [bytesCk 32 ((S_keys_Signer.mk (List.replicate 32 0) (0 : Int) []).f_Seed), one (intVP .i64 ((S_keys_Signer.mk (List.replicate 32 0) (0 : Int) []).f_Next)), one (slVP (dC 32) ((S_keys_Signer.mk (List.replicate 32 0) (0 : Int) []).f_Leaves))]), .res (lb p5 53 [one (intVP .u32 ((S_api_Update.mk (0 : Int) (List.replicate 32 0) (List.replicate 32 0) (S_api_Sig.mk (0 : Int) [] [] [])).f_Home)), bytesCk 32 ((S_api_Update.mk (0 : Int) (List.replicate 32 0) (List.replicate 32 0) (S_api_Sig.mk (0 : Int) [] [] [])).f_Old), bytesCk 32 ((S_api_Update.mk (0 : Int) (List.replicate 32 0) (List.replicate 32 0) (S_api_Sig.mk (0 : Int) [] [] [])).f_New), one (intVP .i64 (((S_api_Update.mk (0 : Int) (List.replicate 32 0) (List.replicate 32 0) (S_api_Sig.mk (0 : Int) [] [] [])).f_Sig).f_Index)), one (slVP (dC 32) (((S_api_Update.mk (0 : Int) (List.replicate 32 0) (List.replicate 32 0) (S_api_Sig.mk (0 : Int) [] [] [])).f_Sig).f_Parts)), one (slVP (dC 32) (((S_api_Update.mk (0 : Int) (List.replicate 32 0) (List.replicate 32 0) (S_api_Sig.mk (0 : Int) [] [] [])).f_Sig).f_Others)), one (slVP (dC 32) (((S_api_Update.mk (0 : Int) (List.replicate 32 0) (List.replicate 32 0) (S_api_Sig.mk (0 : Int) [] [] [])).f_Sig).f_Path))]), .res (Log_e p_0 r7.2.2.2)] a w at h
    refine wp_seq ?_
    refine region_do (n := 39) [.slot 30 100000 100000 (fun _ _ => (aggVP [bytesCk 32 a_1.f_Seed, one (intVP .i64 a_1.f_Next), one (slVP (dC 32) a_1.f_Leaves)])),
      .slot 31 100000 100000 (fun _ _ => (aggVP [one (intVP .u32 (0 : Int)), bytesCk 32 (List.replicate 32 0), bytesCk 32 (List.replicate 32 0), one (intVP .i64 ((S_api_Sig.mk (0 : Int) [] [] []).f_Index)), one (slVP (dC 32) ((S_api_Sig.mk (0 : Int) [] [] []).f_Parts)), one (slVP (dC 32) ((S_api_Sig.mk (0 : Int) [] [] []).f_Others)), one (slVP (dC 32) ((S_api_Sig.mk (0 : Int) [] [] []).f_Path))])),
      .slot 32 100000 100000 (fun _ _ => (intVP .i64 r7.2.2.1)),
      .res 100000 100000 (fun _ _ => (lb p4 27 [bytesCk 32 a_1.f_Seed, one (intVP .i64 a_1.f_Next), one (slVP (dC 32) a_1.f_Leaves)])),
      .res 100000 100000 (fun _ _ => (lb p5 53 [one (intVP .u32 (0 : Int)), bytesCk 32 (List.replicate 32 0), bytesCk 32 (List.replicate 32 0), one (intVP .i64 ((S_api_Sig.mk (0 : Int) [] [] []).f_Index)), one (slVP (dC 32) ((S_api_Sig.mk (0 : Int) [] [] []).f_Parts)), one (slVP (dC 32) ((S_api_Sig.mk (0 : Int) [] [] []).f_Others)), one (slVP (dC 32) ((S_api_Sig.mk (0 : Int) [] [] []).f_Path))])),
      .slot 12 100000 100000 (fun _ _ => (intVP .i64 r7.2.2.1))] [0, 1, 2, 3, 4, 5] [⟨[0, 4], [], [8], [], some 30⟩, ⟨[], [], [9], [0], some 31⟩, ⟨[3], [], [10], [0, 1], some 32⟩, ⟨[1, 8], [5], [11], [0, 1, 2], none⟩, ⟨[2, 9], [6], [12], [0, 1, 2, 3], none⟩, ⟨[10], [], [13], [0, 1, 2, 3, 4], some 12⟩] [1, 2, 13, 11, 12, 7] mixed hn hG h (by kernel_rfl) ?_ ?_
    · exact ⟨⟨rfl, fun β => (GOk.plain (op_load_lb [] [bytesCk 32 a_1.f_Seed, one (intVP .i64 a_1.f_Next), one (slVP (dC 32) a_1.f_Leaves)] [] 1 Tryd.isAgg27 Tryd.sizeOf27 (opt 0 rfl) rfl rfl rfl) rfl)⟩, ⟨rfl, fun β => (GOk.plain (op_build [] rfl bu53 z53 rfl) rfl)⟩, ⟨rfl, fun β => (GOk.plain (op_move (opt 0 rfl)) rfl)⟩, ⟨rfl, fun β => (GOk.plain (op_store_lb [] [bytesCk 32 ((S_keys_Signer.mk (List.replicate 32 0) (0 : Int) []).f_Seed), one (intVP .i64 ((S_keys_Signer.mk (List.replicate 32 0) (0 : Int) []).f_Next)), one (slVP (dC 32) ((S_keys_Signer.mk (List.replicate 32 0) (0 : Int) []).f_Leaves))] [] [bytesCk 32 a_1.f_Seed, one (intVP .i64 a_1.f_Next), one (slVP (dC 32) a_1.f_Leaves)] Tryd.sizeOf27 (opt 0 rfl) (opt 1 rfl) (cells_agg _) rfl rfl rfl) rfl)⟩, ⟨rfl, fun β => (GOk.plain (op_store_lb [] [one (intVP .u32 ((S_api_Update.mk (0 : Int) (List.replicate 32 0) (List.replicate 32 0) (S_api_Sig.mk (0 : Int) [] [] [])).f_Home)), bytesCk 32 ((S_api_Update.mk (0 : Int) (List.replicate 32 0) (List.replicate 32 0) (S_api_Sig.mk (0 : Int) [] [] [])).f_Old), bytesCk 32 ((S_api_Update.mk (0 : Int) (List.replicate 32 0) (List.replicate 32 0) (S_api_Sig.mk (0 : Int) [] [] [])).f_New), one (intVP .i64 (((S_api_Update.mk (0 : Int) (List.replicate 32 0) (List.replicate 32 0) (S_api_Sig.mk (0 : Int) [] [] [])).f_Sig).f_Index)), one (slVP (dC 32) (((S_api_Update.mk (0 : Int) (List.replicate 32 0) (List.replicate 32 0) (S_api_Sig.mk (0 : Int) [] [] [])).f_Sig).f_Parts)), one (slVP (dC 32) (((S_api_Update.mk (0 : Int) (List.replicate 32 0) (List.replicate 32 0) (S_api_Sig.mk (0 : Int) [] [] [])).f_Sig).f_Others)), one (slVP (dC 32) (((S_api_Update.mk (0 : Int) (List.replicate 32 0) (List.replicate 32 0) (S_api_Sig.mk (0 : Int) [] [] [])).f_Sig).f_Path))] [] [one (intVP .u32 (0 : Int)), bytesCk 32 (List.replicate 32 0), bytesCk 32 (List.replicate 32 0), one (intVP .i64 ((S_api_Sig.mk (0 : Int) [] [] []).f_Index)), one (slVP (dC 32) ((S_api_Sig.mk (0 : Int) [] [] []).f_Parts)), one (slVP (dC 32) ((S_api_Sig.mk (0 : Int) [] [] []).f_Others)), one (slVP (dC 32) ((S_api_Sig.mk (0 : Int) [] [] []).f_Path))] Tryd.sizeOf53 (opt 0 rfl) (opt 1 rfl) (cells_agg _) rfl rfl rfl) rfl)⟩, ⟨rfl, fun β => (GOk.plain (op_assign (opt 0 rfl)) rfl)⟩, trivial⟩
    clear h
    intro β a w h
    change SatL c [.slot 10 (lpVP p4 0), .slot 11 (lpVP p5 0), .slot 12 (intVP .i64 r7.2.2.1), .res (lb p4 27 [bytesCk 32 a_1.f_Seed, one (intVP .i64 a_1.f_Next), one (slVP (dC 32) a_1.f_Leaves)]), .res (lb p5 53 [one (intVP .u32 (0 : Int)), bytesCk 32 (List.replicate 32 0), bytesCk 32 (List.replicate 32 0), one (intVP .i64 ((S_api_Sig.mk (0 : Int) [] [] []).f_Index)), one (slVP (dC 32) ((S_api_Sig.mk (0 : Int) [] [] []).f_Parts)), one (slVP (dC 32) ((S_api_Sig.mk (0 : Int) [] [] []).f_Others)), one (slVP (dC 32) ((S_api_Sig.mk (0 : Int) [] [] []).f_Path))]), .res (Log_e p_0 r7.2.2.2)] a w at h
    clear β
    show Code.wp Tryd.prog _ _ a w
    refine wp_ret ?_
    obtain rfl := Option.some.inj hF
    exact ⟨.inl rfl, retn h (rs := [.cell 10 27, .cell 11 53, .tmp 12]) (Vs := [(aggVP [bytesCk 32 a_1.f_Seed, one (intVP .i64 a_1.f_Next), one (slVP (dC 32) a_1.f_Leaves)]), (aggVP [one (intVP .u32 (0 : Int)), bytesCk 32 (List.replicate 32 0), bytesCk 32 (List.replicate 32 0), one (intVP .i64 ((S_api_Sig.mk (0 : Int) [] [] []).f_Index)), one (slVP (dC 32) ((S_api_Sig.mk (0 : Int) [] [] []).f_Parts)), one (slVP (dC 32) ((S_api_Sig.mk (0 : Int) [] [] []).f_Others)), one (slVP (dC 32) ((S_api_Sig.mk (0 : Int) [] [] []).f_Path))]), (intVP .i64 r7.2.2.1)]) Tryd.results26 (by decide) ⟨(r_cell 0 3 rfl rfl Tryd.isAgg27 Tryd.sizeOf27 rfl), (r_cell 1 4 rfl rfl Tryd.isAgg53 Tryd.sizeOf53 rfl), (r_tmp 2 rfl), trivial⟩ [5] [(Log_e p_0 r7.2.2.2)] rfl rfl rfl⟩
  · replace hF := ff_of hb10 hF
    replace h := h.sub [0, 2, 3, 4, 5, 6, 7, 11, 12, 13, 14, 15, 16, 17] (by rfl)
    change SatL c [.slot 2 (intVP .u32 a_2), .slot 8 (lpVP p2 0), .slot 9 (lpVP p3 0), .slot 10 (lpVP p4 0), .slot 11 (lpVP p5 0), .slot 13 (lpVP p8 0), .slot 14 (lpVP p9 0), .res (lb p2 23 [bytesCk 32 a_3]), .res (lb p3 23 [bytesCk 32 a_4]), .res (lb p4 27 [bytesCk 32 ((S_keys_Signer.mk (List.replicate 32 0) (0 : Int) []).f_Seed), one (intVP .i64 ((S_keys_Signer.mk (List.replicate 32 0) (0 : Int) []).f_Next)), one (slVP (dC 32) ((S_keys_Signer.mk (List.replicate 32 0) (0 : Int) []).f_Leaves))]), .res (lb p5 53 [one (intVP .u32 ((S_api_Update.mk (0 : Int) (List.replicate 32 0) (List.replicate 32 0) (S_api_Sig.mk (0 : Int) [] [] [])).f_Home)), bytesCk 32 ((S_api_Update.mk (0 : Int) (List.replicate 32 0) (List.replicate 32 0) (S_api_Sig.mk (0 : Int) [] [] [])).f_Old), bytesCk 32 ((S_api_Update.mk (0 : Int) (List.replicate 32 0) (List.replicate 32 0) (S_api_Sig.mk (0 : Int) [] [] [])).f_New), one (intVP .i64 (((S_api_Update.mk (0 : Int) (List.replicate 32 0) (List.replicate 32 0) (S_api_Sig.mk (0 : Int) [] [] [])).f_Sig).f_Index)), one (slVP (dC 32) (((S_api_Update.mk (0 : Int) (List.replicate 32 0) (List.replicate 32 0) (S_api_Sig.mk (0 : Int) [] [] [])).f_Sig).f_Parts)), one (slVP (dC 32) (((S_api_Update.mk (0 : Int) (List.replicate 32 0) (List.replicate 32 0) (S_api_Sig.mk (0 : Int) [] [] [])).f_Sig).f_Others)), one (slVP (dC 32) (((S_api_Update.mk (0 : Int) (List.replicate 32 0) (List.replicate 32 0) (S_api_Sig.mk (0 : Int) [] [] [])).f_Sig).f_Path))]), .res (Log_e p_0 r7.2.2.2), .res (lb p8 27 [bytesCk 32 r7.1.f_Seed, one (intVP .i64 r7.1.f_Next), one (slVP (dC 32) r7.1.f_Leaves)]), .res (lb p9 31 [one (intVP .i64 r7.2.1.f_Index), one (slVP (dC 32) r7.2.1.f_Parts), one (slVP (dC 32) r7.2.1.f_Others), one (slVP (dC 32) r7.2.1.f_Path)])] a w at h
    refine wp_skip ?_
    show Code.wp Tryd.prog _ _ a w
    refine wp_seq ?_
    refine region_do (n := 39) [.slot 33 100000 100000 (fun _ _ => (aggVP [bytesCk 32 r7.1.f_Seed, one (intVP .i64 r7.1.f_Next), one (slVP (dC 32) r7.1.f_Leaves)])),
      .slot 34 100000 100000 (fun _ _ => (intVP .u32 a_2)),
      .slot 35 100000 100000 (fun _ _ => (aggVP [bytesCk 32 a_3])),
      .slot 36 100000 100000 (fun _ _ => (aggVP [bytesCk 32 a_4])),
      .slot 37 100000 100000 (fun _ _ => (aggVP [one (intVP .i64 r7.2.1.f_Index), one (slVP (dC 32) r7.2.1.f_Parts), one (slVP (dC 32) r7.2.1.f_Others), one (slVP (dC 32) r7.2.1.f_Path)])),
      .slot 38 100000 100000 (fun _ _ => (aggVP [one (intVP .u32 a_2), bytesCk 32 a_3, bytesCk 32 a_4, one (intVP .i64 r7.2.1.f_Index), one (slVP (dC 32) r7.2.1.f_Parts), one (slVP (dC 32) r7.2.1.f_Others), one (slVP (dC 32) r7.2.1.f_Path)])),
      .res 100000 100000 (fun _ _ => (lb p4 27 [bytesCk 32 r7.1.f_Seed, one (intVP .i64 r7.1.f_Next), one (slVP (dC 32) r7.1.f_Leaves)])),
      .res 100000 100000 (fun _ _ => (lb p5 53 [one (intVP .u32 a_2), bytesCk 32 a_3, bytesCk 32 a_4, one (intVP .i64 r7.2.1.f_Index), one (slVP (dC 32) r7.2.1.f_Parts), one (slVP (dC 32) r7.2.1.f_Others), one (slVP (dC 32) r7.2.1.f_Path)])),
      .slot 12 100000 100000 (fun _ _ => (intVP .i64 0))] [0, 1, 2, 3, 4, 5, 6, 7, 8] [⟨[5, 12], [], [14], [], some 33⟩, ⟨[0], [], [15], [], some 34⟩, ⟨[1, 7], [], [16], [], some 35⟩, ⟨[2, 8], [], [17], [], some 36⟩, ⟨[6, 13], [], [18], [], some 37⟩, ⟨[15, 16, 17, 18], [], [19], [1, 2, 3, 4], some 38⟩, ⟨[3, 14], [9], [20], [0], none⟩, ⟨[4, 19], [10], [21], [0, 1, 2, 3, 4, 5, 6], none⟩, ⟨[], [], [22], [0, 1, 2, 3, 4, 5, 6, 7], some 12⟩] [3, 4, 22, 20, 21, 11] mixed hn hG h (by kernel_rfl) ?_ ?_
    · exact ⟨⟨rfl, fun β => (GOk.plain (op_load_lb [] [bytesCk 32 r7.1.f_Seed, one (intVP .i64 r7.1.f_Next), one (slVP (dC 32) r7.1.f_Leaves)] [] 1 Tryd.isAgg27 Tryd.sizeOf27 (opt 0 rfl) rfl rfl rfl) rfl)⟩, ⟨rfl, fun β => (GOk.plain (op_move (opt 0 rfl)) rfl)⟩, ⟨rfl, fun β => (GOk.plain (op_load_lb [] [bytesCk 32 a_3] [] 1 Tryd.isAgg23 Tryd.sizeOf23 (opt 0 rfl) rfl rfl rfl) rfl)⟩, ⟨rfl, fun β => (GOk.plain (op_load_lb [] [bytesCk 32 a_4] [] 1 Tryd.isAgg23 Tryd.sizeOf23 (opt 0 rfl) rfl rfl rfl) rfl)⟩, ⟨rfl, fun β => (GOk.plain (op_load_lb [] [one (intVP .i64 r7.2.1.f_Index), one (slVP (dC 32) r7.2.1.f_Parts), one (slVP (dC 32) r7.2.1.f_Others), one (slVP (dC 32) r7.2.1.f_Path)] [] 1 Tryd.isAgg31 Tryd.sizeOf31 (opt 0 rfl) rfl rfl rfl) rfl)⟩, ⟨rfl, fun β => (GOk.plain (op_build [(0, .tmp 34), (1, .tmp 35), (2, .tmp 36), (3, .tmp 37)] rfl bu53 z53 ⟨[], [one (intVP .u32 (0 : Int))], [bytesCk 32 (List.replicate 32 0), bytesCk 32 (List.replicate 32 0), one (intVP .i64 ((S_api_Sig.mk (0 : Int) [] [] []).f_Index)), one (slVP (dC 32) ((S_api_Sig.mk (0 : Int) [] [] []).f_Parts)), one (slVP (dC 32) ((S_api_Sig.mk (0 : Int) [] [] []).f_Others)), one (slVP (dC 32) ((S_api_Sig.mk (0 : Int) [] [] []).f_Path))], [one (intVP .u32 a_2)], _, rfl, rfl, rfl, (opt 0 rfl), (cells_one (one_int _ _)), ⟨[one (intVP .u32 a_2)], [bytesCk 32 (List.replicate 32 0)], [bytesCk 32 (List.replicate 32 0), one (intVP .i64 ((S_api_Sig.mk (0 : Int) [] [] []).f_Index)), one (slVP (dC 32) ((S_api_Sig.mk (0 : Int) [] [] []).f_Parts)), one (slVP (dC 32) ((S_api_Sig.mk (0 : Int) [] [] []).f_Others)), one (slVP (dC 32) ((S_api_Sig.mk (0 : Int) [] [] []).f_Path))], [bytesCk 32 a_3], _, rfl, rfl, rfl, (opt 1 rfl), (cells_agg _), ⟨[one (intVP .u32 a_2), bytesCk 32 a_3], [bytesCk 32 (List.replicate 32 0)], [one (intVP .i64 ((S_api_Sig.mk (0 : Int) [] [] []).f_Index)), one (slVP (dC 32) ((S_api_Sig.mk (0 : Int) [] [] []).f_Parts)), one (slVP (dC 32) ((S_api_Sig.mk (0 : Int) [] [] []).f_Others)), one (slVP (dC 32) ((S_api_Sig.mk (0 : Int) [] [] []).f_Path))], [bytesCk 32 a_4], _, rfl, rfl, rfl, (opt 2 rfl), (cells_agg _), ⟨[one (intVP .u32 a_2), bytesCk 32 a_3, bytesCk 32 a_4], [one (intVP .i64 ((S_api_Sig.mk (0 : Int) [] [] []).f_Index)), one (slVP (dC 32) ((S_api_Sig.mk (0 : Int) [] [] []).f_Parts)), one (slVP (dC 32) ((S_api_Sig.mk (0 : Int) [] [] []).f_Others)), one (slVP (dC 32) ((S_api_Sig.mk (0 : Int) [] [] []).f_Path))], [], [one (intVP .i64 r7.2.1.f_Index), one (slVP (dC 32) r7.2.1.f_Parts), one (slVP (dC 32) r7.2.1.f_Others), one (slVP (dC 32) r7.2.1.f_Path)], _, rfl, rfl, rfl, (opt 3 rfl), (cells_agg _), rfl⟩⟩⟩⟩) rfl)⟩, ⟨rfl, fun β => (GOk.plain (op_store_lb [] [bytesCk 32 ((S_keys_Signer.mk (List.replicate 32 0) (0 : Int) []).f_Seed), one (intVP .i64 ((S_keys_Signer.mk (List.replicate 32 0) (0 : Int) []).f_Next)), one (slVP (dC 32) ((S_keys_Signer.mk (List.replicate 32 0) (0 : Int) []).f_Leaves))] [] [bytesCk 32 r7.1.f_Seed, one (intVP .i64 r7.1.f_Next), one (slVP (dC 32) r7.1.f_Leaves)] Tryd.sizeOf27 (opt 0 rfl) (opt 1 rfl) (cells_agg _) rfl rfl rfl) rfl)⟩, ⟨rfl, fun β => (GOk.plain (op_store_lb [] [one (intVP .u32 ((S_api_Update.mk (0 : Int) (List.replicate 32 0) (List.replicate 32 0) (S_api_Sig.mk (0 : Int) [] [] [])).f_Home)), bytesCk 32 ((S_api_Update.mk (0 : Int) (List.replicate 32 0) (List.replicate 32 0) (S_api_Sig.mk (0 : Int) [] [] [])).f_Old), bytesCk 32 ((S_api_Update.mk (0 : Int) (List.replicate 32 0) (List.replicate 32 0) (S_api_Sig.mk (0 : Int) [] [] [])).f_New), one (intVP .i64 (((S_api_Update.mk (0 : Int) (List.replicate 32 0) (List.replicate 32 0) (S_api_Sig.mk (0 : Int) [] [] [])).f_Sig).f_Index)), one (slVP (dC 32) (((S_api_Update.mk (0 : Int) (List.replicate 32 0) (List.replicate 32 0) (S_api_Sig.mk (0 : Int) [] [] [])).f_Sig).f_Parts)), one (slVP (dC 32) (((S_api_Update.mk (0 : Int) (List.replicate 32 0) (List.replicate 32 0) (S_api_Sig.mk (0 : Int) [] [] [])).f_Sig).f_Others)), one (slVP (dC 32) (((S_api_Update.mk (0 : Int) (List.replicate 32 0) (List.replicate 32 0) (S_api_Sig.mk (0 : Int) [] [] [])).f_Sig).f_Path))] [] [one (intVP .u32 a_2), bytesCk 32 a_3, bytesCk 32 a_4, one (intVP .i64 r7.2.1.f_Index), one (slVP (dC 32) r7.2.1.f_Parts), one (slVP (dC 32) r7.2.1.f_Others), one (slVP (dC 32) r7.2.1.f_Path)] Tryd.sizeOf53 (opt 0 rfl) (opt 1 rfl) (cells_agg _) rfl rfl rfl) rfl)⟩, ⟨rfl, fun β => (GOk.plain (op_assign (opc (ic (by decide)))) rfl)⟩, trivial⟩
    clear h
    intro β a w h
    change SatL c [.slot 10 (lpVP p4 0), .slot 11 (lpVP p5 0), .slot 12 (intVP .i64 0), .res (lb p4 27 [bytesCk 32 r7.1.f_Seed, one (intVP .i64 r7.1.f_Next), one (slVP (dC 32) r7.1.f_Leaves)]), .res (lb p5 53 [one (intVP .u32 a_2), bytesCk 32 a_3, bytesCk 32 a_4, one (intVP .i64 r7.2.1.f_Index), one (slVP (dC 32) r7.2.1.f_Parts), one (slVP (dC 32) r7.2.1.f_Others), one (slVP (dC 32) r7.2.1.f_Path)]), .res (Log_e p_0 r7.2.2.2)] a w at h
    clear β
    show Code.wp Tryd.prog _ _ a w
    refine wp_ret ?_
    obtain rfl := Option.some.inj hF
    exact ⟨.inl rfl, retn h (rs := [.cell 10 27, .cell 11 53, .tmp 12]) (Vs := [(aggVP [bytesCk 32 r7.1.f_Seed, one (intVP .i64 r7.1.f_Next), one (slVP (dC 32) r7.1.f_Leaves)]), (aggVP [one (intVP .u32 a_2), bytesCk 32 a_3, bytesCk 32 a_4, one (intVP .i64 r7.2.1.f_Index), one (slVP (dC 32) r7.2.1.f_Parts), one (slVP (dC 32) r7.2.1.f_Others), one (slVP (dC 32) r7.2.1.f_Path)]), (intVP .i64 0)]) Tryd.results26 (by decide) ⟨(r_cell 0 3 rfl rfl Tryd.isAgg27 Tryd.sizeOf27 rfl), (r_cell 1 4 rfl rfl Tryd.isAgg53 Tryd.sizeOf53 rfl), (r_tmp 2 rfl), trivial⟩ [5] [(Log_e p_0 r7.2.2.2)] rfl rfl rfl⟩

def lamport_Opened.b1 (a_1 : List UInt8) (a_2 : List (List UInt8)) (a_3 : List (List UInt8)) (x13 : Int) (x14 : Option O_Log) (x15 : List (List UInt8)) : Option (Flow ((List UInt8) × Bool × (Option O_Log)) (Int × (Option O_Log) × (List (List UInt8)))) := (if (decide (x13 < (32 : Int))) = true then ((lamport_Bit a_1 x13).bind fun r27 => (if (0 : Int) ≤ x13 ∧ x13 < a_2.length then ((lamport_Public x14 (a_2.getD x13.toNat default)).bind fun r29 => (if (0 : Int) ≤ IntKind.wrap .i64 ((IntKind.wrap .i64 (2 * x13)) + r27) ∧ IntKind.wrap .i64 ((IntKind.wrap .i64 (2 * x13)) + r27) < 64 then (if (0 : Int) ≤ x13 ∧ x13 < a_3.length then (if (0 : Int) ≤ IntKind.wrap .i64 ((IntKind.wrap .i64 ((IntKind.wrap .i64 (2 * x13)) + 1)) - r27) ∧ IntKind.wrap .i64 ((IntKind.wrap .i64 ((IntKind.wrap .i64 (2 * x13)) + 1)) - r27) < 64 then some (.cont (IntKind.wrap .i64 (x13 + 1), r29.2, (x15.set (IntKind.wrap .i64 ((IntKind.wrap .i64 (2 * x13)) + r27)).toNat r29.1).set (IntKind.wrap .i64 ((IntKind.wrap .i64 ((IntKind.wrap .i64 (2 * x13)) + 1)) - r27)).toNat (a_3.getD x13.toNat default))) else none) else none) else none)) else none)) else some (.brk (x13, x14, x15)))
def lamport_Opened.j1 (L_0 : Option O_Log) (a_1 : List UInt8) (a_2 : List (List UInt8)) (a_3 : List (List UInt8)) (x3 : Bool) : Option ((List UInt8) × Bool × (Option O_Log)) := (if x3 = true then some ((List.replicate 32 0), false, L_0) else ((loopN (fun s : Int × (Option O_Log) × (List (List UInt8)) => lamport_Opened.b1 a_1 a_2 a_3 s.1 s.2.1 s.2.2) ((32 - 0 : Int).toNat + 2) (0, L_0, (List.replicate 64 (List.replicate 32 0)))).bind fun cr => match cr with | .ret r => some r | .next (y37, y38, y39) => ((lamport_pair y38 y39).bind fun r40 => some (r40.1, true, r40.2))))
def lamport_Opened (L_0 : Option O_Log) (a_1 : List UInt8) (a_2 : List (List UInt8)) (a_3 : List (List UInt8)) : Option ((List UInt8) × Bool × (Option O_Log)) := (if (!decide ((a_2.length : Int) = (32 : Int))) = true then lamport_Opened.j1 L_0 a_1 a_2 a_3 true else lamport_Opened.j1 L_0 a_1 a_2 a_3 (!decide ((a_3.length : Int) = (32 : Int))))
theorem lamport_Opened_ok {p_0 : Value} {L_0 : Option O_Log} {a_1 : List UInt8} {a_2 : List (List UInt8)} {a_3 : List (List UInt8)} {r : (List UInt8) × Bool × (Option O_Log)} (hF : lamport_Opened L_0 a_1 a_2 a_3 = some r) : CallOk Tryd.prog KG 53 [(eqVP p_0), (aggVP [bytesCk 32 a_1]), (slVP (dC 32) a_2), (slVP (dC 32) a_3)] [(Log_e p_0 L_0)] (fun _ => [Log_e p_0 r.2.2]) (tupVP [(aggVP [bytesCk 32 r.1]), (boolVP r.2.1)]) := by
  refine CallOk.intro 53 Tryd.func53 rfl Tryd.ntmps53 (Nat.le_of_ble_eq_true rfl) ?_
  intro c a w hG hn h
  unfold lamport_Opened at hF
  change SatL c [.slot 0 (eqVP p_0), .slot 1 (aggVP [bytesCk 32 a_1]), .slot 2 (slVP (dC 32) a_2), .slot 3 (slVP (dC 32) a_3), .res (Log_e p_0 L_0)] a w at h
  refine wp_seq ?_
  refine region_do (n := 53) [.slot 5 0 100000 (fun v1_ _ => (lpVP v1_ 0)),
      .res 0 100000 (fun v1_ _ => (lb (v1_) 23 [bytesCk 32 a_1])),
      .slot 8 1 100000 (fun v1_ _ => (lpVP v1_ 0)),
      .res 1 100000 (fun v1_ _ => (lb (v1_) 23 [bytesCk 32 (List.replicate 32 0)])),
      .slot 9 100000 100000 (fun _ _ => (boolVP false))] [0, 0, 1, 1, 2] [⟨[1], [], [5, 6], [], some 5⟩, ⟨[], [], [7, 8], [0], some 8⟩, ⟨[], [], [9], [0, 1], some 9⟩] [0, 2, 3, 5, 7, 4, 6, 8] mixed hn hG h (by kernel_rfl) ?_ ?_
  · exact ⟨⟨rfl, fun β => (GOk.plain (op_box (opt 0 rfl) (cells_agg _)) rfl)⟩, ⟨rfl, fun β => (GOk.plain (op_alloc Tryd.zeroValue23 z23) rfl)⟩, ⟨rfl, fun β => (GOk.plain (op_assign (opc (bc _))) rfl)⟩, trivial⟩
  clear h
  intro β a w h
  change SatL c [.slot 0 (eqVP p_0), .slot 2 (slVP (dC 32) a_2), .slot 3 (slVP (dC 32) a_3), .slot 5 (lpVP (β 0) 0), .slot 8 (lpVP (β 1) 0), .res (Log_e p_0 L_0), .res (lb (β 0) 23 [bytesCk 32 a_1]), .res (lb (β 1) 23 [bytesCk 32 (List.replicate 32 0)])] a w at h
  generalize β 0 = p1 at h
  generalize β 1 = p2 at h
  clear β
  show Code.wp Tryd.prog _ _ a w
  refine wp_seq ?_
  refine wp_seq ?_
  refine wp_cut (fun a w => ∃ (x3 : Bool), lamport_Opened.j1 L_0 a_1 a_2 a_3 x3 = some r ∧ SatL c [.slot 0 (eqVP p_0), .slot 2 (slVP (dC 32) a_2), .slot 3 (slVP (dC 32) a_3), .slot 5 (lpVP p1 0), .slot 8 (lpVP p2 0), .slot 20 (boolVP x3), .res (Log_e p_0 L_0), .res (lb p1 23 [bytesCk 32 a_1]), .res (lb p2 23 [bytesCk 32 (List.replicate 32 0)])] a w) ?_ ?_
  · rcases Bool.eq_false_or_eq_true (!decide ((a_2.length : Int) = (32 : Int))) with hb41 | hb41
    · replace hF := tt_of hb41 hF
      refine region_do (n := 53) [.slot 13 100000 100000 (fun _ _ => (slVP (dC 32) a_2)),
      .slot 14 100000 100000 (fun _ _ => (intVP .i64 (a_2.length : Int))),
      .slot 15 100000 100000 (fun _ _ => (boolVP (!decide ((a_2.length : Int) = (32 : Int))))),
      .slot 16 100000 100000 (fun _ _ => (boolVP (!decide ((a_2.length : Int) = (32 : Int))))),
      .slot 17 100000 100000 (fun _ _ => (eqVP undef)),
      .slot 18 100000 100000 (fun _ _ => (eqVP undef)),
      .slot 19 100000 100000 (fun _ _ => (eqVP undef)),
      .slot 20 100000 100000 (fun _ _ => (boolVP true))] [0, 1, 2, 3, 4, 5, 6, 7] [⟨[1], [], [8], [], some 13⟩, ⟨[8], [], [9], [0], some 14⟩, ⟨[9], [], [10], [0, 1], some 15⟩, ⟨[10], [], [11], [0, 1, 2], some 16⟩, ⟨[11], [], [12], [0, 1, 2, 3], some 17⟩, ⟨[11], [], [13], [0, 1, 2, 3, 4], some 18⟩, ⟨[11], [], [14], [0, 1, 2, 3, 4, 5], some 19⟩, ⟨[11], [], [15], [0, 1, 2, 3, 4, 5, 6], some 20⟩] [0, 1, 2, 3, 4, 15, 5, 6, 7] mixed hn hG h (by kernel_rfl) ?_ ?_
      · exact ⟨⟨rfl, fun β => (GOk.plain (op_move (opt 0 rfl)) rfl)⟩, ⟨rfl, fun β => (GOk.plain (op_len_sl Tryd.underlying24 (opt 0 rfl)) rfl)⟩, ⟨rfl, fun β => (GOk.plain (op_bin bin_neq (opt 0 rfl) (opc (ic (by decide)))) rfl)⟩, ⟨rfl, fun β => (GOk.plain (op_move (opt 0 rfl)) rfl)⟩, ⟨rfl, fun β => (GOk.off_v (want := false) hb41 rfl rfl rfl rfl)⟩, ⟨rfl, fun β => (GOk.off_v (want := false) hb41 rfl rfl rfl rfl)⟩, ⟨rfl, fun β => (GOk.off_v (want := false) hb41 rfl rfl rfl rfl)⟩, ⟨rfl, fun β => (GOk.plain (op_pick_t hb41 (opt 0 rfl) (opc (bc _))) rfl)⟩, trivial⟩
      clear h
      intro β a w h
      change SatL c [.slot 0 (eqVP p_0), .slot 2 (slVP (dC 32) a_2), .slot 3 (slVP (dC 32) a_3), .slot 5 (lpVP p1 0), .slot 8 (lpVP p2 0), .slot 20 (boolVP true), .res (Log_e p_0 L_0), .res (lb p1 23 [bytesCk 32 a_1]), .res (lb p2 23 [bytesCk 32 (List.replicate 32 0)])] a w at h
      clear β
      exact ⟨true, hF, h.sub [0, 1, 2, 3, 4, 5, 6, 7, 8] (by rfl)⟩
    · replace hF := ff_of hb41 hF
      refine region_do (n := 53) [.slot 13 100000 100000 (fun _ _ => (slVP (dC 32) a_2)),
      .slot 14 100000 100000 (fun _ _ => (intVP .i64 (a_2.length : Int))),
      .slot 15 100000 100000 (fun _ _ => (boolVP (!decide ((a_2.length : Int) = (32 : Int))))),
      .slot 16 100000 100000 (fun _ _ => (boolVP (!decide ((a_2.length : Int) = (32 : Int))))),
      .slot 17 100000 100000 (fun _ _ => (slVP (dC 32) a_3)),
      .slot 18 100000 100000 (fun _ _ => (intVP .i64 (a_3.length : Int))),
      .slot 19 100000 100000 (fun _ _ => (boolVP (!decide ((a_3.length : Int) = (32 : Int))))),
      .slot 20 100000 100000 (fun _ _ => (boolVP (!decide ((a_3.length : Int) = (32 : Int)))))] [0, 1, 2, 3, 4, 5, 6, 7] [⟨[1], [], [8], [], some 13⟩, ⟨[8], [], [9], [0], some 14⟩, ⟨[9], [], [10], [0, 1], some 15⟩, ⟨[10], [], [11], [0, 1, 2], some 16⟩, ⟨[11, 2], [], [12], [0, 1, 2, 3], some 17⟩, ⟨[11, 12], [], [13], [0, 1, 2, 3, 4], some 18⟩, ⟨[11, 13], [], [14], [0, 1, 2, 3, 4, 5], some 19⟩, ⟨[11, 14], [], [15], [0, 1, 2, 3, 4, 5, 6], some 20⟩] [0, 1, 2, 3, 4, 15, 5, 6, 7] mixed hn hG h (by kernel_rfl) ?_ ?_
      · exact ⟨⟨rfl, fun β => (GOk.plain (op_move (opt 0 rfl)) rfl)⟩, ⟨rfl, fun β => (GOk.plain (op_len_sl Tryd.underlying24 (opt 0 rfl)) rfl)⟩, ⟨rfl, fun β => (GOk.plain (op_bin bin_neq (opt 0 rfl) (opc (ic (by decide)))) rfl)⟩, ⟨rfl, fun β => (GOk.plain (op_move (opt 0 rfl)) rfl)⟩, ⟨rfl, fun β => (GOk.on_eq hb41 rfl rfl rfl (op_move (opt 0 rfl)))⟩, ⟨rfl, fun β => (GOk.on_eq hb41 rfl rfl rfl (op_len_sl Tryd.underlying24 (opt 0 rfl)))⟩, ⟨rfl, fun β => (GOk.on_eq hb41 rfl rfl rfl (op_bin bin_neq (opt 0 rfl) (opc (ic (by decide)))))⟩, ⟨rfl, fun β => (GOk.plain (op_pick_f hb41 (opt 0 rfl) (opt 1 rfl)) rfl)⟩, trivial⟩
      clear h
      intro β a w h
      change SatL c [.slot 0 (eqVP p_0), .slot 2 (slVP (dC 32) a_2), .slot 3 (slVP (dC 32) a_3), .slot 5 (lpVP p1 0), .slot 8 (lpVP p2 0), .slot 20 (boolVP (!decide ((a_3.length : Int) = (32 : Int)))), .res (Log_e p_0 L_0), .res (lb p1 23 [bytesCk 32 a_1]), .res (lb p2 23 [bytesCk 32 (List.replicate 32 0)])] a w at h
      clear β
      exact ⟨!decide ((a_3.length : Int) = (32 : Int)), hF, h.sub [0, 1, 2, 3, 4, 5, 6, 7, 8] (by rfl)⟩
  · clear h hF
    rintro a w ⟨x3, hF, h⟩
    unfold lamport_Opened.j1 at hF
    show Code.wp Tryd.prog _ _ a w
    refine cond_L h 5 rfl (fun hb4 => ?_) (fun hb4 => ?_)
    · replace hF := tt_of hb4 hF
      replace h := h.sub [4, 6, 8] (by rfl)
      change SatL c [.slot 8 (lpVP p2 0), .res (Log_e p_0 L_0), .res (lb p2 23 [bytesCk 32 (List.replicate 32 0)])] a w at h
      refine wp_seq ?_
      refine region_do (n := 53) [.slot 21 100000 100000 (fun _ _ => (aggVP [bytesCk 32 (List.replicate 32 0)])),
      .res 100000 100000 (fun _ _ => (lb p2 23 [bytesCk 32 (List.replicate 32 0)])),
      .slot 9 100000 100000 (fun _ _ => (boolVP false))] [0, 1, 2] [⟨[], [], [3], [], some 21⟩, ⟨[0, 3], [2], [4], [0], none⟩, ⟨[], [], [5], [0, 1], some 9⟩] [0, 5, 1, 4] mixed hn hG h (by kernel_rfl) ?_ ?_
      · exact ⟨⟨rfl, fun β => (GOk.plain (build0 Tryd.zeroValue23 Tryd.underlying23 Tryd.sizeOf5 z23) rfl)⟩, ⟨rfl, fun β => (GOk.plain (op_store_lb [] [bytesCk 32 (List.replicate 32 0)] [] [bytesCk 32 (List.replicate 32 0)] Tryd.sizeOf23 (opt 0 rfl) (opt 1 rfl) (cells_agg _) rfl rfl rfl) rfl)⟩, ⟨rfl, fun β => (GOk.plain (op_assign (opc (bc _))) rfl)⟩, trivial⟩
      clear h
      intro β a w h
      change SatL c [.slot 8 (lpVP p2 0), .slot 9 (boolVP false), .res (Log_e p_0 L_0), .res (lb p2 23 [bytesCk 32 (List.replicate 32 0)])] a w at h
      clear β
      show Code.wp Tryd.prog _ _ a w
      refine wp_ret ?_
      obtain rfl := Option.some.inj hF
      exact ⟨.inl rfl, retn h (rs := [.cell 8 23, .tmp 9]) (Vs := [(aggVP [bytesCk 32 (List.replicate 32 0)]), (boolVP false)]) Tryd.results53 (by decide) ⟨(r_cell 0 3 rfl rfl Tryd.isAgg23 Tryd.sizeOf23 rfl), (r_tmp 1 rfl), trivial⟩ [2] [(Log_e p_0 L_0)] rfl rfl rfl⟩
    · replace hF := ff_of hb4 hF
      replace h := h.sub [0, 1, 2, 3, 4, 6, 7, 8] (by rfl)
      change SatL c [.slot 0 (eqVP p_0), .slot 2 (slVP (dC 32) a_2), .slot 3 (slVP (dC 32) a_3), .slot 5 (lpVP p1 0), .slot 8 (lpVP p2 0), .res (Log_e p_0 L_0), .res (lb p1 23 [bytesCk 32 a_1]), .res (lb p2 23 [bytesCk 32 (List.replicate 32 0)])] a w at h
      refine wp_skip ?_
      show Code.wp Tryd.prog _ _ a w
      refine wp_seq ?_
      refine region_do (n := 53) [.slot 10 0 100000 (fun v1_ _ => (lpVP v1_ 0)),
      .res 0 100000 (fun v1_ _ => (lb (v1_) 122 [arrCk 64 32 (dC 32) (lens_dC 32) (List.replicate 64 (List.replicate 32 0))]))] [0, 0] [⟨[], [], [8, 9], [], some 10⟩] [0, 1, 2, 3, 4, 8, 5, 6, 7, 9] mixed hn hG h (by kernel_rfl) ?_ ?_
      · exact ⟨⟨rfl, fun β => (GOk.plain (op_alloc Tryd.zeroValue122 z122) rfl)⟩, trivial⟩
      clear h
      intro β a w h
      change SatL c [.slot 0 (eqVP p_0), .slot 2 (slVP (dC 32) a_2), .slot 3 (slVP (dC 32) a_3), .slot 5 (lpVP p1 0), .slot 8 (lpVP p2 0), .slot 10 (lpVP (β 0) 0), .res (Log_e p_0 L_0), .res (lb p1 23 [bytesCk 32 a_1]), .res (lb p2 23 [bytesCk 32 (List.replicate 32 0)]), .res (lb (β 0) 122 [arrCk 64 32 (dC 32) (lens_dC 32) (List.replicate 64 (List.replicate 32 0))])] a w at h
      generalize β 0 = p5 at h
      clear β
      show Code.wp Tryd.prog _ _ a w
      refine wp_seq ?_
      refine wp_seq ?_
      refine region_do (n := 53) [.slot 22 100000 100000 (fun _ _ => (intVP .i64 0))] [0] [⟨[], [], [10], [], some 22⟩] [0, 1, 2, 3, 4, 5, 10, 6, 7, 8, 9] mixed hn hG h (by kernel_rfl) ?_ ?_
      · exact ⟨⟨rfl, fun β => (GOk.plain (op_move (opc (ic (by decide)))) rfl)⟩, trivial⟩
      clear h
      intro β a w h
      change SatL c [.slot 0 (eqVP p_0), .slot 2 (slVP (dC 32) a_2), .slot 3 (slVP (dC 32) a_3), .slot 5 (lpVP p1 0), .slot 8 (lpVP p2 0), .slot 10 (lpVP p5 0), .slot 22 (intVP .i64 0), .res (Log_e p_0 L_0), .res (lb p1 23 [bytesCk 32 a_1]), .res (lb p2 23 [bytesCk 32 (List.replicate 32 0)]), .res (lb p5 122 [arrCk 64 32 (dC 32) (lens_dC 32) (List.replicate 64 (List.replicate 32 0))])] a w at h
      clear β
      show Code.wp Tryd.prog _ _ a w
      refine wp_block ?_
      obtain ⟨cr33, hl34, hF⟩ := bind_some hF
      refine wp_mono (wp_loopN (R := (List UInt8) × Bool × (Option O_Log)) (S := Int × (Option O_Log) × (List (List UInt8))) (fun s a w => SatL c [.slot 0 (eqVP p_0), .slot 2 (slVP (dC 32) a_2), .slot 3 (slVP (dC 32) a_3), .slot 5 (lpVP p1 0), .slot 8 (lpVP p2 0), .slot 10 (lpVP p5 0), .slot 22 (intVP .i64 s.1), .res (Log_e p_0 s.2.1), .res (lb p1 23 [bytesCk 32 a_1]), .res (lb p2 23 [bytesCk 32 (List.replicate 32 0)]), .res (lb p5 122 [arrCk 64 32 (dC 32) (lens_dC 32) s.2.2])] a w) (fun res e a w => match res with | .next s => e = .exit 0 ∧ SatL c [.slot 0 (eqVP p_0), .slot 8 (lpVP p2 0), .slot 10 (lpVP p5 0), .res (Log_e p_0 s.2.1), .res (lb p2 23 [bytesCk 32 (List.replicate 32 0)]), .res (lb p5 122 [arrCk 64 32 (dC 32) (lens_dC 32) s.2.2])] a w | .ret r => e = .ret ∧ RetOk Tryd.prog Tryd.f53 c (tupVP [(aggVP [bytesCk 32 r.1]), (boolVP r.2.1)]) (fun _ => [Log_e p_0 r.2.2]) a w) ?_ _ (0, L_0, (List.replicate 64 (List.replicate 32 0))) _ _ _ (h.sub [0, 1, 2, 3, 4, 5, 6, 7, 8, 9, 10] (by rfl)) hl34) ?_
      · clear hl34 hF h
        intro s a w o h hF
        obtain ⟨x13, x14, x15⟩ := s
        change lamport_Opened.b1 a_1 a_2 a_3 x13 x14 x15 = some o at hF
        unfold lamport_Opened.b1 at hF
        change SatL c [.slot 0 (eqVP p_0), .slot 2 (slVP (dC 32) a_2), .slot 3 (slVP (dC 32) a_3), .slot 5 (lpVP p1 0), .slot 8 (lpVP p2 0), .slot 10 (lpVP p5 0), .slot 22 (intVP .i64 x13), .res (Log_e p_0 x14), .res (lb p1 23 [bytesCk 32 a_1]), .res (lb p2 23 [bytesCk 32 (List.replicate 32 0)]), .res (lb p5 122 [arrCk 64 32 (dC 32) (lens_dC 32) x15])] a w at h
        refine wp_seq ?_
        refine region_do (n := 53) [.slot 23 100000 100000 (fun _ _ => (boolVP (decide (x13 < (32 : Int)))))] [0] [⟨[6], [], [11], [], some 23⟩] [0, 1, 2, 3, 4, 5, 6, 11, 7, 8, 9, 10] mixed hn hG h (by kernel_rfl) ?_ ?_
        · exact ⟨⟨rfl, fun β => (GOk.plain (op_bin bin_lss (opt 0 rfl) (opc (ic (by decide)))) rfl)⟩, trivial⟩
        clear h
        intro β a w h
        change SatL c [.slot 0 (eqVP p_0), .slot 2 (slVP (dC 32) a_2), .slot 3 (slVP (dC 32) a_3), .slot 5 (lpVP p1 0), .slot 8 (lpVP p2 0), .slot 10 (lpVP p5 0), .slot 22 (intVP .i64 x13), .slot 23 (boolVP (decide (x13 < (32 : Int)))), .res (Log_e p_0 x14), .res (lb p1 23 [bytesCk 32 a_1]), .res (lb p2 23 [bytesCk 32 (List.replicate 32 0)]), .res (lb p5 122 [arrCk 64 32 (dC 32) (lens_dC 32) x15])] a w at h
        clear β
        show Code.wp Tryd.prog _ _ a w
        refine wp_seq ?_
        refine cond_L h 7 rfl (fun hb26 => ?_) (fun hb26 => ?_)
        · replace hF := tt_of hb26 hF
          replace h := h.sub [0, 1, 2, 3, 4, 5, 6, 8, 9, 10, 11] (by rfl)
          change SatL c [.slot 0 (eqVP p_0), .slot 2 (slVP (dC 32) a_2), .slot 3 (slVP (dC 32) a_3), .slot 5 (lpVP p1 0), .slot 8 (lpVP p2 0), .slot 10 (lpVP p5 0), .slot 22 (intVP .i64 x13), .res (Log_e p_0 x14), .res (lb p1 23 [bytesCk 32 a_1]), .res (lb p2 23 [bytesCk 32 (List.replicate 32 0)]), .res (lb p5 122 [arrCk 64 32 (dC 32) (lens_dC 32) x15])] a w at h
          refine wp_skip ?_
          show Code.wp Tryd.prog _ _ a w
          refine wp_seq ?_
          refine wp_block ?_
          refine wp_seq ?_
          refine region_do (n := 53) [.slot 24 100000 100000 (fun _ _ => (intVP .i64 x13)),
      .slot 11 100000 100000 (fun _ _ => (intVP .i64 x13))] [0, 1] [⟨[6], [], [11], [], some 24⟩, ⟨[11], [], [12], [0], some 11⟩] [0, 1, 2, 3, 4, 5, 12, 6, 7, 8, 9, 10] mixed hn hG h (by kernel_rfl) ?_ ?_
          · exact ⟨⟨rfl, fun β => (GOk.plain (op_move (opt 0 rfl)) rfl)⟩, ⟨rfl, fun β => (GOk.plain (op_assign (opt 0 rfl)) rfl)⟩, trivial⟩
          clear h
          intro β a w h
          change SatL c [.slot 0 (eqVP p_0), .slot 2 (slVP (dC 32) a_2), .slot 3 (slVP (dC 32) a_3), .slot 5 (lpVP p1 0), .slot 8 (lpVP p2 0), .slot 10 (lpVP p5 0), .slot 11 (intVP .i64 x13), .slot 22 (intVP .i64 x13), .res (Log_e p_0 x14), .res (lb p1 23 [bytesCk 32 a_1]), .res (lb p2 23 [bytesCk 32 (List.replicate 32 0)]), .res (lb p5 122 [arrCk 64 32 (dC 32) (lens_dC 32) x15])] a w at h
          clear β
          show Code.wp Tryd.prog _ _ a w
          refine wp_seq ?_
          obtain ⟨r27, hr27, hF⟩ := bind_some hF
          refine region_do (n := 53) [.slot 25 100000 100000 (fun _ _ => (aggVP [bytesCk 32 a_1])),
      .slot 26 100000 100000 (fun _ _ => (intVP .i64 x13)),
      .slot 27 100000 100000 (fun _ _ => (intVP .i64 r27)),
      .slot 12 100000 100000 (fun _ _ => (intVP .i64 r27))] [0, 1, 2, 3] [⟨[3, 9], [], [12], [], some 25⟩, ⟨[6], [], [13], [0], some 26⟩, ⟨[12, 13], [], [14], [0, 1], some 27⟩, ⟨[14], [], [15], [0, 1, 2], some 12⟩] [0, 1, 2, 3, 4, 5, 6, 15, 7, 8, 9, 10, 11] mixed hn hG h (by kernel_rfl) ?_ ?_
          · exact ⟨⟨rfl, fun β => (GOk.plain (op_load_lb [] [bytesCk 32 a_1] [] 1 Tryd.isAgg23 Tryd.sizeOf23 (opt 0 rfl) rfl rfl rfl) rfl)⟩, ⟨rfl, fun β => (GOk.plain (op_move (opt 0 rfl)) rfl)⟩, ⟨rfl, fun β => (GOk.plain (op_call Tryd.call72 (lamport_Bit_ok hr27) ⟨(opt 0 rfl), (opt 1 rfl), trivial⟩) rfl)⟩, ⟨rfl, fun β => (GOk.plain (op_assign (opt 0 rfl)) rfl)⟩, trivial⟩
          clear h
          intro β a w h
          change SatL c [.slot 0 (eqVP p_0), .slot 2 (slVP (dC 32) a_2), .slot 3 (slVP (dC 32) a_3), .slot 5 (lpVP p1 0), .slot 8 (lpVP p2 0), .slot 10 (lpVP p5 0), .slot 11 (intVP .i64 x13), .slot 12 (intVP .i64 r27), .slot 22 (intVP .i64 x13), .res (Log_e p_0 x14), .res (lb p1 23 [bytesCk 32 a_1]), .res (lb p2 23 [bytesCk 32 (List.replicate 32 0)]), .res (lb p5 122 [arrCk 64 32 (dC 32) (lens_dC 32) x15])] a w at h
          clear β
          show Code.wp Tryd.prog _ _ a w
          refine wp_seq ?_
          obtain ⟨hv28, hF⟩ := ite_some hF
          obtain ⟨r29, hr29, hF⟩ := bind_some hF
          obtain ⟨hv30, hF⟩ := ite_some hF
          refine region_do (n := 53) [.slot 28 100000 100000 (fun _ _ => (intVP .i64 x13)),
      .slot 29 100000 100000 (fun _ _ => (intVP .i64 (IntKind.wrap .i64 (2 * x13)))),
      .slot 30 100000 100000 (fun _ _ => (intVP .i64 r27)),
      .slot 31 100000 100000 (fun _ _ => (intVP .i64 (IntKind.wrap .i64 ((IntKind.wrap .i64 (2 * x13)) + r27)))),
      .slot 32 100000 100000 (fun _ _ => (eqVP p_0)),
      .slot 33 100000 100000 (fun _ _ => (slVP (dC 32) a_2)),
      .slot 34 100000 100000 (fun _ _ => (intVP .i64 x13)),
      .slot 35 100000 100000 (fun _ _ => (ppVP [bytesCk 32 (a_2.getD x13.toNat default)])),
      .slot 36 100000 100000 (fun _ _ => (aggVP [bytesCk 32 (a_2.getD x13.toNat default)])),
      .slot 37 100000 100000 (fun _ _ => (aggVP [bytesCk 32 r29.1])),
      .res 100000 100000 (fun _ _ => (Log_e p_0 r29.2)),
      .slot 38 100000 100000 (fun _ _ => (lpVP p5 (0 + (IntKind.wrap .i64 ((IntKind.wrap .i64 (2 * x13)) + r27)).toNat * 32))),
      .res 100000 100000 (fun _ _ => (lb p5 122 [arrCk 64 32 (dC 32) (lens_dC 32) (x15.set (IntKind.wrap .i64 ((IntKind.wrap .i64 (2 * x13)) + r27)).toNat r29.1)]))] [0, 1, 2, 3, 4, 5, 6, 7, 8, 9, 9, 10, 11] [⟨[6], [], [13], [], some 28⟩, ⟨[13], [], [14], [0], some 29⟩, ⟨[7], [], [15], [0, 1], some 30⟩, ⟨[14, 15], [], [16], [0, 1, 2], some 31⟩, ⟨[0], [], [17], [0, 1, 2, 3], some 32⟩, ⟨[1], [], [18], [0, 1, 2, 3, 4], some 33⟩, ⟨[6], [], [19], [0, 1, 2, 3, 4, 5], some 34⟩, ⟨[18, 19], [], [20], [0, 1, 2, 3, 4, 5, 6], some 35⟩, ⟨[20], [], [21], [0, 1, 2, 3, 4, 5, 6, 7], some 36⟩, ⟨[17, 21], [9], [22, 23], [0, 1, 2, 3, 4, 5, 6, 7, 8], some 37⟩, ⟨[5, 16], [], [24], [0, 1, 2, 3, 4, 5, 6, 7, 8, 9], some 38⟩, ⟨[24, 22], [12], [25], [0, 1, 2, 3, 4, 5, 6, 7, 8, 9, 10], none⟩] [0, 1, 2, 3, 4, 5, 6, 7, 8, 10, 11, 25, 23] mixed hn hG h (by kernel_rfl) ?_ ?_
          · exact ⟨⟨rfl, fun β => (GOk.plain (op_move (opt 0 rfl)) rfl)⟩, ⟨rfl, fun β => (GOk.plain (op_bin bin_mul (opc (ic (by decide))) (opt 0 rfl)) rfl)⟩, ⟨rfl, fun β => (GOk.plain (op_move (opt 0 rfl)) rfl)⟩, ⟨rfl, fun β => (GOk.plain (op_bin bin_add (opt 0 rfl) (opt 1 rfl)) rfl)⟩, ⟨rfl, fun β => (GOk.plain (op_move (opt 0 rfl)) rfl)⟩, ⟨rfl, fun β => (GOk.plain (op_move (opt 0 rfl)) rfl)⟩, ⟨rfl, fun β => (GOk.plain (op_move (opt 0 rfl)) rfl)⟩, ⟨rfl, fun β => (GOk.plain (op_indexAddr_sl Tryd.underlying24 Tryd.sizeOf23 (lens_dC 32) (opt 0 rfl) (opt 1 rfl) hv28) rfl)⟩, ⟨rfl, fun β => (GOk.plain (op_load_pp [bytesCk 32 (a_2.getD x13.toNat default)] [] Tryd.isAgg23 Tryd.sizeOf23 (opt 0 rfl) rfl) rfl)⟩, ⟨rfl, fun β => (GOk.plain (op_call Tryd.call68 (lamport_Public_ok hr29) ⟨(opt 0 rfl), (opt 1 rfl), trivial⟩) rfl)⟩, ⟨rfl, fun β => (GOk.plain (op_indexAddr_lb Tryd.underlying122 Tryd.sizeOf23 (opt 0 rfl) (opt 1 rfl) hv30) rfl)⟩, ⟨rfl, fun β => (GOk.plain (op_store_lbA (i := IntKind.wrap .i64 ((IntKind.wrap .i64 (2 * x13)) + r27)) [] [] Tryd.sizeOf23 (opt 0 rfl) (opt 1 rfl) rfl hv30) rfl)⟩, trivial⟩
          clear h
          intro β a w h
          change SatL c [.slot 0 (eqVP p_0), .slot 2 (slVP (dC 32) a_2), .slot 3 (slVP (dC 32) a_3), .slot 5 (lpVP p1 0), .slot 8 (lpVP p2 0), .slot 10 (lpVP p5 0), .slot 11 (intVP .i64 x13), .slot 12 (intVP .i64 r27), .slot 22 (intVP .i64 x13), .res (lb p1 23 [bytesCk 32 a_1]), .res (lb p2 23 [bytesCk 32 (List.replicate 32 0)]), .res (lb p5 122 [arrCk 64 32 (dC 32) (lens_dC 32) (x15.set (IntKind.wrap .i64 ((IntKind.wrap .i64 (2 * x13)) + r27)).toNat r29.1)]), .res (Log_e p_0 r29.2)] a w at h
          clear β
          show Code.wp Tryd.prog _ _ a w
          obtain ⟨hv31, hF⟩ := ite_some hF
          obtain ⟨hv32, hF⟩ := ite_some hF
          refine region_do (n := 53) [.slot 39 100000 100000 (fun _ _ => (intVP .i64 x13)),
      .slot 40 100000 100000 (fun _ _ => (intVP .i64 (IntKind.wrap .i64 (2 * x13)))),
      .slot 41 100000 100000 (fun _ _ => (intVP .i64 (IntKind.wrap .i64 ((IntKind.wrap .i64 (2 * x13)) + 1)))),
      .slot 42 100000 100000 (fun _ _ => (intVP .i64 r27)),
      .slot 43 100000 100000 (fun _ _ => (intVP .i64 (IntKind.wrap .i64 ((IntKind.wrap .i64 ((IntKind.wrap .i64 (2 * x13)) + 1)) - r27)))),
      .slot 44 100000 100000 (fun _ _ => (slVP (dC 32) a_3)),
      .slot 45 100000 100000 (fun _ _ => (intVP .i64 x13)),
      .slot 46 100000 100000 (fun _ _ => (ppVP [bytesCk 32 (a_3.getD x13.toNat default)])),
      .slot 47 100000 100000 (fun _ _ => (aggVP [bytesCk 32 (a_3.getD x13.toNat default)])),
      .slot 48 100000 100000 (fun _ _ => (lpVP p5 (0 + (IntKind.wrap .i64 ((IntKind.wrap .i64 ((IntKind.wrap .i64 (2 * x13)) + 1)) - r27)).toNat * 32))),
      .res 100000 100000 (fun _ _ => (lb p5 122 [arrCk 64 32 (dC 32) (lens_dC 32) ((x15.set (IntKind.wrap .i64 ((IntKind.wrap .i64 (2 * x13)) + r27)).toNat r29.1).set (IntKind.wrap .i64 ((IntKind.wrap .i64 ((IntKind.wrap .i64 (2 * x13)) + 1)) - r27)).toNat (a_3.getD x13.toNat default))]))] [0, 1, 2, 3, 4, 5, 6, 7, 8, 9, 10] [⟨[6], [], [13], [], some 39⟩, ⟨[13], [], [14], [0], some 40⟩, ⟨[14], [], [15], [0, 1], some 41⟩, ⟨[7], [], [16], [0, 1, 2], some 42⟩, ⟨[15, 16], [], [17], [0, 1, 2, 3], some 43⟩, ⟨[2], [], [18], [0, 1, 2, 3, 4], some 44⟩, ⟨[6], [], [19], [0, 1, 2, 3, 4, 5], some 45⟩, ⟨[18, 19], [], [20], [0, 1, 2, 3, 4, 5, 6], some 46⟩, ⟨[20], [], [21], [0, 1, 2, 3, 4, 5, 6, 7], some 47⟩, ⟨[5, 17], [], [22], [0, 1, 2, 3, 4, 5, 6, 7, 8], some 48⟩, ⟨[22, 21], [11], [23], [0, 1, 2, 3, 4, 5, 6, 7, 8, 9], none⟩] [0, 1, 2, 3, 4, 5, 8, 9, 10, 23, 12] mixed hn hG h (by kernel_rfl) ?_ ?_
          · exact ⟨⟨rfl, fun β => (GOk.plain (op_move (opt 0 rfl)) rfl)⟩, ⟨rfl, fun β => (GOk.plain (op_bin bin_mul (opc (ic (by decide))) (opt 0 rfl)) rfl)⟩, ⟨rfl, fun β => (GOk.plain (op_bin bin_add (opt 0 rfl) (opc (ic (by decide)))) rfl)⟩, ⟨rfl, fun β => (GOk.plain (op_move (opt 0 rfl)) rfl)⟩, ⟨rfl, fun β => (GOk.plain (op_bin bin_sub (opt 0 rfl) (opt 1 rfl)) rfl)⟩, ⟨rfl, fun β => (GOk.plain (op_move (opt 0 rfl)) rfl)⟩, ⟨rfl, fun β => (GOk.plain (op_move (opt 0 rfl)) rfl)⟩, ⟨rfl, fun β => (GOk.plain (op_indexAddr_sl Tryd.underlying24 Tryd.sizeOf23 (lens_dC 32) (opt 0 rfl) (opt 1 rfl) hv31) rfl)⟩, ⟨rfl, fun β => (GOk.plain (op_load_pp [bytesCk 32 (a_3.getD x13.toNat default)] [] Tryd.isAgg23 Tryd.sizeOf23 (opt 0 rfl) rfl) rfl)⟩, ⟨rfl, fun β => (GOk.plain (op_indexAddr_lb Tryd.underlying122 Tryd.sizeOf23 (opt 0 rfl) (opt 1 rfl) hv32) rfl)⟩, ⟨rfl, fun β => (GOk.plain (op_store_lbA (i := IntKind.wrap .i64 ((IntKind.wrap .i64 ((IntKind.wrap .i64 (2 * x13)) + 1)) - r27)) [] [] Tryd.sizeOf23 (opt 0 rfl) (opt 1 rfl) rfl hv32) rfl)⟩, trivial⟩
          clear h
          intro β a w h
          change SatL c [.slot 0 (eqVP p_0), .slot 2 (slVP (dC 32) a_2), .slot 3 (slVP (dC 32) a_3), .slot 5 (lpVP p1 0), .slot 8 (lpVP p2 0), .slot 10 (lpVP p5 0), .slot 22 (intVP .i64 x13), .res (lb p1 23 [bytesCk 32 a_1]), .res (lb p2 23 [bytesCk 32 (List.replicate 32 0)]), .res (lb p5 122 [arrCk 64 32 (dC 32) (lens_dC 32) ((x15.set (IntKind.wrap .i64 ((IntKind.wrap .i64 (2 * x13)) + r27)).toNat r29.1).set (IntKind.wrap .i64 ((IntKind.wrap .i64 ((IntKind.wrap .i64 (2 * x13)) + 1)) - r27)).toNat (a_3.getD x13.toNat default))]), .res (Log_e p_0 r29.2)] a w at h
          clear β
          show Code.wp Tryd.prog _ _ a w
          refine region_do (n := 53) [.slot 49 100000 100000 (fun _ _ => (intVP .i64 (IntKind.wrap .i64 (x13 + 1)))),
      .slot 22 100000 100000 (fun _ _ => (intVP .i64 (IntKind.wrap .i64 (x13 + 1))))] [0, 1] [⟨[6], [], [11], [], some 49⟩, ⟨[11], [6], [12], [0], some 22⟩] [0, 1, 2, 3, 4, 5, 12, 7, 8, 9, 10] mixed hn hG h (by kernel_rfl) ?_ ?_
          · exact ⟨⟨rfl, fun β => (GOk.plain (op_bin bin_add (opt 0 rfl) (opc (ic (by decide)))) rfl)⟩, ⟨rfl, fun β => (GOk.drop _ (GOk.plain (op_move (opt 0 rfl)) rfl))⟩, trivial⟩
          clear h
          intro β a w h
          change SatL c [.slot 0 (eqVP p_0), .slot 2 (slVP (dC 32) a_2), .slot 3 (slVP (dC 32) a_3), .slot 5 (lpVP p1 0), .slot 8 (lpVP p2 0), .slot 10 (lpVP p5 0), .slot 22 (intVP .i64 (IntKind.wrap .i64 (x13 + 1))), .res (lb p1 23 [bytesCk 32 a_1]), .res (lb p2 23 [bytesCk 32 (List.replicate 32 0)]), .res (lb p5 122 [arrCk 64 32 (dC 32) (lens_dC 32) ((x15.set (IntKind.wrap .i64 ((IntKind.wrap .i64 (2 * x13)) + r27)).toNat r29.1).set (IntKind.wrap .i64 ((IntKind.wrap .i64 ((IntKind.wrap .i64 (2 * x13)) + 1)) - r27)).toNat (a_3.getD x13.toNat default))]), .res (Log_e p_0 r29.2)] a w at h
          clear β
          obtain rfl := Option.some.inj hF
          exact ⟨rfl, h.sub [0, 1, 2, 3, 4, 5, 6, 10, 7, 8, 9] (by rfl)⟩
        · replace hF := ff_of hb26 hF
          replace h := h.sub [0, 1, 2, 3, 4, 5, 6, 8, 9, 10, 11] (by rfl)
          change SatL c [.slot 0 (eqVP p_0), .slot 2 (slVP (dC 32) a_2), .slot 3 (slVP (dC 32) a_3), .slot 5 (lpVP p1 0), .slot 8 (lpVP p2 0), .slot 10 (lpVP p5 0), .slot 22 (intVP .i64 x13), .res (Log_e p_0 x14), .res (lb p1 23 [bytesCk 32 a_1]), .res (lb p2 23 [bytesCk 32 (List.replicate 32 0)]), .res (lb p5 122 [arrCk 64 32 (dC 32) (lens_dC 32) x15])] a w at h
          refine wp_exit ?_
          obtain rfl := Option.some.inj hF
          exact ⟨exit_ne _, rfl, h.sub [0, 4, 5, 7, 9, 10] (by rfl)⟩
      · clear hl34
        intro e a w hq
        cases cr33 with
        | ret r35 =>
          obtain ⟨rfl, hq⟩ := hq
          obtain rfl := Option.some.inj hF
          exact ⟨.inl rfl, hq⟩
        | next s36 =>
          obtain ⟨y37, y38, y39⟩ := s36
          obtain ⟨rfl, h⟩ := hq
          change SatL c [.slot 0 (eqVP p_0), .slot 8 (lpVP p2 0), .slot 10 (lpVP p5 0), .res (Log_e p_0 y38), .res (lb p2 23 [bytesCk 32 (List.replicate 32 0)]), .res (lb p5 122 [arrCk 64 32 (dC 32) (lens_dC 32) y39])] a w at h
          refine inBlock_at ?_
          show Code.wp Tryd.prog _ _ a w
          refine wp_seq ?_
          obtain ⟨r40, hr40, hF⟩ := bind_some hF
          refine region_do (n := 53) [.slot 50 100000 100000 (fun _ _ => (eqVP p_0)),
      .slot 51 100000 100000 (fun _ _ => (aggVP [arrCk 64 32 (dC 32) (lens_dC 32) y39])),
      .slot 52 100000 100000 (fun _ _ => (aggVP [bytesCk 32 r40.1])),
      .res 100000 100000 (fun _ _ => (Log_e p_0 r40.2)),
      .res 100000 100000 (fun _ _ => (lb p2 23 [bytesCk 32 r40.1])),
      .slot 9 100000 100000 (fun _ _ => (boolVP true))] [0, 1, 2, 2, 3, 4] [⟨[0], [], [6], [], some 50⟩, ⟨[2, 5], [], [7], [0], some 51⟩, ⟨[6, 7], [3], [8, 9], [0, 1], some 52⟩, ⟨[1, 8], [4], [10], [0, 1, 2], none⟩, ⟨[], [], [11], [0, 1, 2, 3], some 9⟩] [1, 11, 10, 9] mixed hn hG h (by kernel_rfl) ?_ ?_
          · exact ⟨⟨rfl, fun β => (GOk.plain (op_move (opt 0 rfl)) rfl)⟩, ⟨rfl, fun β => (GOk.plain (op_load_lb [] [arrCk 64 32 (dC 32) (lens_dC 32) y39] [] 1 Tryd.isAgg122 Tryd.sizeOf122 (opt 0 rfl) rfl rfl rfl) rfl)⟩, ⟨rfl, fun β => (GOk.plain (op_call Tryd.call70 (lamport_pair_ok hr40) ⟨(opt 0 rfl), (opt 1 rfl), trivial⟩) rfl)⟩, ⟨rfl, fun β => (GOk.plain (op_store_lb [] [bytesCk 32 (List.replicate 32 0)] [] [bytesCk 32 r40.1] Tryd.sizeOf23 (opt 0 rfl) (opt 1 rfl) (cells_agg _) rfl rfl rfl) rfl)⟩, ⟨rfl, fun β => (GOk.plain (op_assign (opc (bc _))) rfl)⟩, trivial⟩
          clear h
          intro β a w h
          change SatL c [.slot 8 (lpVP p2 0), .slot 9 (boolVP true), .res (lb p2 23 [bytesCk 32 r40.1]), .res (Log_e p_0 r40.2)] a w at h
          clear β
          show Code.wp Tryd.prog _ _ a w
          refine wp_ret ?_
          obtain rfl := Option.some.inj hF
          exact ⟨.inl rfl, retn h (rs := [.cell 8 23, .tmp 9]) (Vs := [(aggVP [bytesCk 32 r40.1]), (boolVP true)]) Tryd.results53 (by decide) ⟨(r_cell 0 2 rfl rfl Tryd.isAgg23 Tryd.sizeOf23 rfl), (r_tmp 1 rfl), trivial⟩ [3] [(Log_e p_0 r40.2)] rfl rfl rfl⟩

def keys_Climb.j1 (x10 : Int) (x11 : Int) (x30 : List UInt8) (x31 : Option O_Log) : Option (Flow ((List UInt8) × (Option O_Log)) (Int × Int × (Option O_Log) × (List UInt8))) := some (.cont (shr .i64 x10 1, IntKind.wrap .i64 (x11 + 1), x31, x30))
def keys_Climb.b1 (a_3 : List (List UInt8)) (x10 : Int) (x11 : Int) (x12 : Option O_Log) (x13 : List UInt8) : Option (Flow ((List UInt8) × (Option O_Log)) (Int × Int × (Option O_Log) × (List UInt8))) := (if (decide (x11 < (a_3.length : Int))) = true then (if (0 : Int) ≤ x11 ∧ x11 < a_3.length then (if (decide ((bits .and .i64 x10 1) = (1 : Int))) = true then ((digest_Log_Two x12 4 (a_3.getD x11.toNat default) x13).bind fun r33 => keys_Climb.j1 x10 x11 r33.1 r33.2) else ((digest_Log_Two x12 4 x13 (a_3.getD x11.toNat default)).bind fun r34 => keys_Climb.j1 x10 x11 r34.1 r34.2)) else none) else some (.brk (x10, x11, x12, x13)))
def keys_Climb (L_0 : Option O_Log) (a_1 : List UInt8) (a_2 : Int) (a_3 : List (List UInt8)) : Option ((List UInt8) × (Option O_Log)) := ((loopN (fun s : Int × Int × (Option O_Log) × (List UInt8) => keys_Climb.b1 a_3 s.1 s.2.1 s.2.2.1 s.2.2.2) (((a_3.length : Int) - 0 : Int).toNat + 2) (a_2, 0, L_0, a_1)).bind fun cr => match cr with | .ret r => some r | .next (y39, y40, y41, y42) => some (y42, y41))
theorem keys_Climb_ok {p_0 : Value} {L_0 : Option O_Log} {a_1 : List UInt8} {a_2 : Int} {a_3 : List (List UInt8)} {r : (List UInt8) × (Option O_Log)} (hF : keys_Climb L_0 a_1 a_2 a_3 = some r) : CallOk Tryd.prog KG 54 [(eqVP p_0), (aggVP [bytesCk 32 a_1]), (intVP .i64 a_2), (slVP (dC 32) a_3)] [(Log_e p_0 L_0)] (fun _ => [Log_e p_0 r.2]) (aggVP [bytesCk 32 r.1]) := by
  refine CallOk.intro 32 Tryd.func54 rfl Tryd.ntmps54 (Nat.le_of_ble_eq_true rfl) ?_
  intro c a w hG hn h
  unfold keys_Climb at hF
  change SatL c [.slot 0 (eqVP p_0), .slot 1 (aggVP [bytesCk 32 a_1]), .slot 2 (intVP .i64 a_2), .slot 3 (slVP (dC 32) a_3), .res (Log_e p_0 L_0)] a w at h
  refine wp_seq ?_
  refine region_do (n := 32) [.slot 5 0 100000 (fun v1_ _ => (lpVP v1_ 0)),
      .res 0 100000 (fun v1_ _ => (lb (v1_) 23 [bytesCk 32 a_1])),
      .slot 8 1 100000 (fun v1_ _ => (lpVP v1_ 0)),
      .res 1 100000 (fun v1_ _ => (lb (v1_) 23 [bytesCk 32 (List.replicate 32 0)]))] [0, 0, 1, 1] [⟨[1], [], [5, 6], [], some 5⟩, ⟨[], [], [7, 8], [0], some 8⟩] [0, 2, 3, 5, 7, 4, 6, 8] mixed hn hG h (by kernel_rfl) ?_ ?_
  · exact ⟨⟨rfl, fun β => (GOk.plain (op_box (opt 0 rfl) (cells_agg _)) rfl)⟩, ⟨rfl, fun β => (GOk.plain (op_alloc Tryd.zeroValue23 z23) rfl)⟩, trivial⟩
  clear h
  intro β a w h
  change SatL c [.slot 0 (eqVP p_0), .slot 2 (intVP .i64 a_2), .slot 3 (slVP (dC 32) a_3), .slot 5 (lpVP (β 0) 0), .slot 8 (lpVP (β 1) 0), .res (Log_e p_0 L_0), .res (lb (β 0) 23 [bytesCk 32 a_1]), .res (lb (β 1) 23 [bytesCk 32 (List.replicate 32 0)])] a w at h
  generalize β 0 = p1 at h
  generalize β 1 = p2 at h
  clear β
  show Code.wp Tryd.prog _ _ a w
  refine wp_seq ?_
  refine wp_seq ?_
  refine region_do (n := 32) [.slot 11 100000 100000 (fun _ _ => (slVP (dC 32) a_3)),
      .slot 12 100000 100000 (fun _ _ => (intVP .i64 (a_3.length : Int))),
      .slot 13 100000 100000 (fun _ _ => (intVP .i64 0))] [0, 1, 2] [⟨[2], [], [8], [], some 11⟩, ⟨[8], [], [9], [0], some 12⟩, ⟨[], [], [10], [0, 1], some 13⟩] [0, 1, 3, 4, 8, 9, 10, 5, 6, 7] mixed hn hG h (by kernel_rfl) ?_ ?_
  · exact ⟨⟨rfl, fun β => (GOk.plain (op_move (opt 0 rfl)) rfl)⟩, ⟨rfl, fun β => (GOk.plain (op_len_sl Tryd.underlying24 (opt 0 rfl)) rfl)⟩, ⟨rfl, fun β => (GOk.plain (op_move (opc (ic (by decide)))) rfl)⟩, trivial⟩
  clear h
  intro β a w h
  change SatL c [.slot 0 (eqVP p_0), .slot 2 (intVP .i64 a_2), .slot 5 (lpVP p1 0), .slot 8 (lpVP p2 0), .slot 11 (slVP (dC 32) a_3), .slot 12 (intVP .i64 (a_3.length : Int)), .slot 13 (intVP .i64 0), .res (Log_e p_0 L_0), .res (lb p1 23 [bytesCk 32 a_1]), .res (lb p2 23 [bytesCk 32 (List.replicate 32 0)])] a w at h
  clear β
  show Code.wp Tryd.prog _ _ a w
  refine wp_block ?_
  obtain ⟨cr35, hl36, hF⟩ := bind_some hF
  refine wp_mono (wp_loopN (R := (List UInt8) × (Option O_Log)) (S := Int × Int × (Option O_Log) × (List UInt8)) (fun s a w => SatL c [.slot 0 (eqVP p_0), .slot 2 (intVP .i64 s.1), .slot 5 (lpVP p1 0), .slot 8 (lpVP p2 0), .slot 11 (slVP (dC 32) a_3), .slot 12 (intVP .i64 (a_3.length : Int)), .slot 13 (intVP .i64 s.2.1), .res (Log_e p_0 s.2.2.1), .res (lb p1 23 [bytesCk 32 s.2.2.2]), .res (lb p2 23 [bytesCk 32 (List.replicate 32 0)])] a w) (fun res e a w => match res with | .next s => e = .exit 0 ∧ SatL c [.slot 5 (lpVP p1 0), .slot 8 (lpVP p2 0), .res (Log_e p_0 s.2.2.1), .res (lb p1 23 [bytesCk 32 s.2.2.2]), .res (lb p2 23 [bytesCk 32 (List.replicate 32 0)])] a w | .ret r => e = .ret ∧ RetOk Tryd.prog Tryd.f54 c (aggVP [bytesCk 32 r.1]) (fun _ => [Log_e p_0 r.2]) a w) ?_ _ (a_2, 0, L_0, a_1) _ _ _ (h.sub [0, 1, 2, 3, 4, 5, 6, 7, 8, 9] (by rfl)) hl36) ?_
  · clear hl36 hF h
    intro s a w o h hF
    obtain ⟨x10, x11, x12, x13⟩ := s
    change keys_Climb.b1 a_3 x10 x11 x12 x13 = some o at hF
    unfold keys_Climb.b1 at hF
    change SatL c [.slot 0 (eqVP p_0), .slot 2 (intVP .i64 x10), .slot 5 (lpVP p1 0), .slot 8 (lpVP p2 0), .slot 11 (slVP (dC 32) a_3), .slot 12 (intVP .i64 (a_3.length : Int)), .slot 13 (intVP .i64 x11), .res (Log_e p_0 x12), .res (lb p1 23 [bytesCk 32 x13]), .res (lb p2 23 [bytesCk 32 (List.replicate 32 0)])] a w at h
    refine wp_seq ?_
    refine region_do (n := 32) [.slot 14 100000 100000 (fun _ _ => (boolVP (decide (x11 < (a_3.length : Int)))))] [0] [⟨[6, 5], [], [10], [], some 14⟩] [0, 1, 2, 3, 4, 5, 6, 10, 7, 8, 9] mixed hn hG h (by kernel_rfl) ?_ ?_
    · exact ⟨⟨rfl, fun β => (GOk.plain (op_bin bin_lss (opt 0 rfl) (opt 1 rfl)) rfl)⟩, trivial⟩
    clear h
    intro β a w h
    change SatL c [.slot 0 (eqVP p_0), .slot 2 (intVP .i64 x10), .slot 5 (lpVP p1 0), .slot 8 (lpVP p2 0), .slot 11 (slVP (dC 32) a_3), .slot 12 (intVP .i64 (a_3.length : Int)), .slot 13 (intVP .i64 x11), .slot 14 (boolVP (decide (x11 < (a_3.length : Int)))), .res (Log_e p_0 x12), .res (lb p1 23 [bytesCk 32 x13]), .res (lb p2 23 [bytesCk 32 (List.replicate 32 0)])] a w at h
    clear β
    show Code.wp Tryd.prog _ _ a w
    refine wp_seq ?_
    refine cond_L h 7 rfl (fun hb25 => ?_) (fun hb25 => ?_)
    · replace hF := tt_of hb25 hF
      replace h := h.sub [0, 1, 2, 3, 4, 5, 6, 8, 9, 10] (by rfl)
      change SatL c [.slot 0 (eqVP p_0), .slot 2 (intVP .i64 x10), .slot 5 (lpVP p1 0), .slot 8 (lpVP p2 0), .slot 11 (slVP (dC 32) a_3), .slot 12 (intVP .i64 (a_3.length : Int)), .slot 13 (intVP .i64 x11), .res (Log_e p_0 x12), .res (lb p1 23 [bytesCk 32 x13]), .res (lb p2 23 [bytesCk 32 (List.replicate 32 0)])] a w at h
      refine wp_skip ?_
      show Code.wp Tryd.prog _ _ a w
      refine wp_seq ?_
      refine wp_block ?_
      refine wp_seq ?_
      obtain ⟨hv26, hF⟩ := ite_some hF
      refine region_do (n := 32) [.slot 15 100000 100000 (fun _ _ => (ppVP [bytesCk 32 (a_3.getD x11.toNat default)])),
      .slot 16 100000 100000 (fun _ _ => (aggVP [bytesCk 32 (a_3.getD x11.toNat default)])),
      .slot 10 2 100000 (fun v1_ _ => (lpVP v1_ 0)),
      .res 2 100000 (fun v1_ _ => (lb (v1_) 23 [bytesCk 32 (List.replicate 32 0)])),
      .res 2 100000 (fun v1_ _ => (lb (v1_) 23 [bytesCk 32 (a_3.getD x11.toNat default)]))] [0, 1, 2, 2, 3] [⟨[4, 6], [], [10], [], some 15⟩, ⟨[10], [], [11], [0], some 16⟩, ⟨[], [], [12, 13], [0, 1], some 10⟩, ⟨[12, 11], [13], [14], [0, 1, 2], none⟩] [0, 1, 2, 3, 12, 4, 5, 6, 7, 8, 9, 14] mixed hn hG h (by kernel_rfl) ?_ ?_
      · exact ⟨⟨rfl, fun β => (GOk.plain (op_indexAddr_sl Tryd.underlying24 Tryd.sizeOf23 (lens_dC 32) (opt 0 rfl) (opt 1 rfl) hv26) rfl)⟩, ⟨rfl, fun β => (GOk.plain (op_load_pp [bytesCk 32 (a_3.getD x11.toNat default)] [] Tryd.isAgg23 Tryd.sizeOf23 (opt 0 rfl) rfl) rfl)⟩, ⟨rfl, fun β => (GOk.plain (op_alloc Tryd.zeroValue23 z23) rfl)⟩, ⟨rfl, fun β => (GOk.plain (op_store_lb [] [bytesCk 32 (List.replicate 32 0)] [] [bytesCk 32 (a_3.getD x11.toNat default)] Tryd.sizeOf23 (opt 0 rfl) (opt 1 rfl) (cells_agg _) rfl rfl rfl) rfl)⟩, trivial⟩
      clear h
      intro β a w h
      change SatL c [.slot 0 (eqVP p_0), .slot 2 (intVP .i64 x10), .slot 5 (lpVP p1 0), .slot 8 (lpVP p2 0), .slot 10 (lpVP (β 2) 0), .slot 11 (slVP (dC 32) a_3), .slot 12 (intVP .i64 (a_3.length : Int)), .slot 13 (intVP .i64 x11), .res (Log_e p_0 x12), .res (lb p1 23 [bytesCk 32 x13]), .res (lb p2 23 [bytesCk 32 (List.replicate 32 0)]), .res (lb (β 2) 23 [bytesCk 32 (a_3.getD x11.toNat default)])] a w at h
      generalize β 2 = p27 at h
      clear β
      show Code.wp Tryd.prog _ _ a w
      refine wp_seq ?_
      refine wp_seq ?_
      refine region_do (n := 32) [.slot 17 100000 100000 (fun _ _ => (intVP .i64 x10)),
      .slot 18 100000 100000 (fun _ _ => (intVP .i64 (bits .and .i64 x10 1))),
      .slot 19 100000 100000 (fun _ _ => (boolVP (decide ((bits .and .i64 x10 1) = (1 : Int)))))] [0, 1, 2] [⟨[1], [], [12], [], some 17⟩, ⟨[12], [], [13], [0], some 18⟩, ⟨[13], [], [14], [0, 1], some 19⟩] [0, 1, 2, 3, 4, 5, 6, 7, 14, 8, 9, 10, 11] mixed hn hG h (by kernel_rfl) ?_ ?_
      · exact ⟨⟨rfl, fun β => (GOk.plain (op_move (opt 0 rfl)) rfl)⟩, ⟨rfl, fun β => (GOk.plain (op_bin bin_and (opt 0 rfl) (opc (ic (by decide)))) rfl)⟩, ⟨rfl, fun β => (GOk.plain (op_bin bin_eql (opt 0 rfl) (opc (ic (by decide)))) rfl)⟩, trivial⟩
      clear h
      intro β a w h
      change SatL c [.slot 0 (eqVP p_0), .slot 2 (intVP .i64 x10), .slot 5 (lpVP p1 0), .slot 8 (lpVP p2 0), .slot 10 (lpVP p27 0), .slot 11 (slVP (dC 32) a_3), .slot 12 (intVP .i64 (a_3.length : Int)), .slot 13 (intVP .i64 x11), .slot 19 (boolVP (decide ((bits .and .i64 x10 1) = (1 : Int)))), .res (Log_e p_0 x12), .res (lb p1 23 [bytesCk 32 x13]), .res (lb p2 23 [bytesCk 32 (List.replicate 32 0)]), .res (lb p27 23 [bytesCk 32 (a_3.getD x11.toNat default)])] a w at h
      clear β
      show Code.wp Tryd.prog _ _ a w
      refine wp_cut (fun a w => ∃ (x30 : List UInt8), ∃ (x31 : Option O_Log), keys_Climb.j1 x10 x11 x30 x31 = some o ∧ SatL c [.slot 0 (eqVP p_0), .slot 2 (intVP .i64 x10), .slot 5 (lpVP p1 0), .slot 8 (lpVP p2 0), .slot 11 (slVP (dC 32) a_3), .slot 12 (intVP .i64 (a_3.length : Int)), .slot 13 (intVP .i64 x11), .res (lb p1 23 [bytesCk 32 x30]), .res (lb p2 23 [bytesCk 32 (List.replicate 32 0)]), .res (Log_e p_0 x31)] a w) ?_ ?_
      · refine cond_L h 8 rfl (fun hb32 => ?_) (fun hb32 => ?_)
        · replace hF := tt_of hb32 hF
          replace h := h.sub [0, 1, 2, 3, 4, 5, 6, 7, 9, 10, 11, 12] (by rfl)
          change SatL c [.slot 0 (eqVP p_0), .slot 2 (intVP .i64 x10), .slot 5 (lpVP p1 0), .slot 8 (lpVP p2 0), .slot 10 (lpVP p27 0), .slot 11 (slVP (dC 32) a_3), .slot 12 (intVP .i64 (a_3.length : Int)), .slot 13 (intVP .i64 x11), .res (Log_e p_0 x12), .res (lb p1 23 [bytesCk 32 x13]), .res (lb p2 23 [bytesCk 32 (List.replicate 32 0)]), .res (lb p27 23 [bytesCk 32 (a_3.getD x11.toNat default)])] a w at h
          obtain ⟨r33, hr33, hF⟩ := bind_some hF
          refine region_do (n := 32) [.slot 20 100000 100000 (fun _ _ => (eqVP p_0)),
      .slot 21 100000 100000 (fun _ _ => (aggVP [bytesCk 32 (a_3.getD x11.toNat default)])),
      .slot 22 100000 100000 (fun _ _ => (aggVP [bytesCk 32 x13])),
      .slot 23 100000 100000 (fun _ _ => (aggVP [bytesCk 32 r33.1])),
      .res 100000 100000 (fun _ _ => (Log_e p_0 r33.2)),
      .res 100000 100000 (fun _ _ => (lb p1 23 [bytesCk 32 r33.1]))] [0, 1, 2, 3, 3, 4] [⟨[0], [], [12], [], some 20⟩, ⟨[4, 11], [], [13], [0], some 21⟩, ⟨[2, 9], [], [14], [0, 1], some 22⟩, ⟨[12, 13, 14], [8], [15, 16], [0, 1, 2], some 23⟩, ⟨[2, 15], [9], [17], [0, 1, 2, 3], none⟩] [0, 1, 2, 3, 5, 6, 7, 17, 10, 16] mixed hn hG h (by kernel_rfl) ?_ ?_
          · exact ⟨⟨rfl, fun β => (GOk.plain (op_move (opt 0 rfl)) rfl)⟩, ⟨rfl, fun β => (GOk.plain (op_load_lb [] [bytesCk 32 (a_3.getD x11.toNat default)] [] 1 Tryd.isAgg23 Tryd.sizeOf23 (opt 0 rfl) rfl rfl rfl) rfl)⟩, ⟨rfl, fun β => (GOk.plain (op_load_lb [] [bytesCk 32 x13] [] 1 Tryd.isAgg23 Tryd.sizeOf23 (opt 0 rfl) rfl rfl rfl) rfl)⟩, ⟨rfl, fun β => (GOk.plain (op_call Tryd.call71 (digest_Log_Two_ok hr33) ⟨(opt 0 rfl), (opc (ic (by decide))), (opt 1 rfl), (opt 2 rfl), trivial⟩) rfl)⟩, ⟨rfl, fun β => (GOk.plain (op_store_lb [] [bytesCk 32 x13] [] [bytesCk 32 r33.1] Tryd.sizeOf23 (opt 0 rfl) (opt 1 rfl) (cells_agg _) rfl rfl rfl) rfl)⟩, trivial⟩
          clear h
          intro β a w h
          change SatL c [.slot 0 (eqVP p_0), .slot 2 (intVP .i64 x10), .slot 5 (lpVP p1 0), .slot 8 (lpVP p2 0), .slot 11 (slVP (dC 32) a_3), .slot 12 (intVP .i64 (a_3.length : Int)), .slot 13 (intVP .i64 x11), .res (lb p1 23 [bytesCk 32 r33.1]), .res (lb p2 23 [bytesCk 32 (List.replicate 32 0)]), .res (Log_e p_0 r33.2)] a w at h
          clear β
          exact ⟨r33.1, r33.2, hF, h.sub [0, 1, 2, 3, 4, 5, 6, 7, 8, 9] (by rfl)⟩
        · replace hF := ff_of hb32 hF
          replace h := h.sub [0, 1, 2, 3, 4, 5, 6, 7, 9, 10, 11, 12] (by rfl)
          change SatL c [.slot 0 (eqVP p_0), .slot 2 (intVP .i64 x10), .slot 5 (lpVP p1 0), .slot 8 (lpVP p2 0), .slot 10 (lpVP p27 0), .slot 11 (slVP (dC 32) a_3), .slot 12 (intVP .i64 (a_3.length : Int)), .slot 13 (intVP .i64 x11), .res (Log_e p_0 x12), .res (lb p1 23 [bytesCk 32 x13]), .res (lb p2 23 [bytesCk 32 (List.replicate 32 0)]), .res (lb p27 23 [bytesCk 32 (a_3.getD x11.toNat default)])] a w at h
          obtain ⟨r34, hr34, hF⟩ := bind_some hF
          refine region_do (n := 32) [.slot 24 100000 100000 (fun _ _ => (eqVP p_0)),
      .slot 25 100000 100000 (fun _ _ => (aggVP [bytesCk 32 x13])),
      .slot 26 100000 100000 (fun _ _ => (aggVP [bytesCk 32 (a_3.getD x11.toNat default)])),
      .slot 27 100000 100000 (fun _ _ => (aggVP [bytesCk 32 r34.1])),
      .res 100000 100000 (fun _ _ => (Log_e p_0 r34.2)),
      .res 100000 100000 (fun _ _ => (lb p1 23 [bytesCk 32 r34.1]))] [0, 1, 2, 3, 3, 4] [⟨[0], [], [12], [], some 24⟩, ⟨[2, 9], [], [13], [0], some 25⟩, ⟨[4, 11], [], [14], [0, 1], some 26⟩, ⟨[12, 13, 14], [8], [15, 16], [0, 1, 2], some 27⟩, ⟨[2, 15], [9], [17], [0, 1, 2, 3], none⟩] [0, 1, 2, 3, 5, 6, 7, 17, 10, 16] mixed hn hG h (by kernel_rfl) ?_ ?_
          · exact ⟨⟨rfl, fun β => (GOk.plain (op_move (opt 0 rfl)) rfl)⟩, ⟨rfl, fun β => (GOk.plain (op_load_lb [] [bytesCk 32 x13] [] 1 Tryd.isAgg23 Tryd.sizeOf23 (opt 0 rfl) rfl rfl rfl) rfl)⟩, ⟨rfl, fun β => (GOk.plain (op_load_lb [] [bytesCk 32 (a_3.getD x11.toNat default)] [] 1 Tryd.isAgg23 Tryd.sizeOf23 (opt 0 rfl) rfl rfl rfl) rfl)⟩, ⟨rfl, fun β => (GOk.plain (op_call Tryd.call71 (digest_Log_Two_ok hr34) ⟨(opt 0 rfl), (opc (ic (by decide))), (opt 1 rfl), (opt 2 rfl), trivial⟩) rfl)⟩, ⟨rfl, fun β => (GOk.plain (op_store_lb [] [bytesCk 32 x13] [] [bytesCk 32 r34.1] Tryd.sizeOf23 (opt 0 rfl) (opt 1 rfl) (cells_agg _) rfl rfl rfl) rfl)⟩, trivial⟩
          clear h
          intro β a w h
          change SatL c [.slot 0 (eqVP p_0), .slot 2 (intVP .i64 x10), .slot 5 (lpVP p1 0), .slot 8 (lpVP p2 0), .slot 11 (slVP (dC 32) a_3), .slot 12 (intVP .i64 (a_3.length : Int)), .slot 13 (intVP .i64 x11), .res (lb p1 23 [bytesCk 32 r34.1]), .res (lb p2 23 [bytesCk 32 (List.replicate 32 0)]), .res (Log_e p_0 r34.2)] a w at h
          clear β
          exact ⟨r34.1, r34.2, hF, h.sub [0, 1, 2, 3, 4, 5, 6, 7, 8, 9] (by rfl)⟩
      · clear h hF
        rintro a w ⟨x30, x31, hF, h⟩
        unfold keys_Climb.j1 at hF
        show Code.wp Tryd.prog _ _ a w
        refine region_do (n := 32) [.slot 28 100000 100000 (fun _ _ => (intVP .i64 x10)),
      .slot 29 100000 100000 (fun _ _ => (intVP .i64 (shr .i64 x10 1))),
      .slot 2 100000 100000 (fun _ _ => (intVP .i64 (shr .i64 x10 1)))] [0, 1, 2] [⟨[1], [], [10], [], some 28⟩, ⟨[10], [], [11], [0], some 29⟩, ⟨[11], [1], [12], [0, 1], some 2⟩] [0, 12, 2, 3, 4, 5, 6, 7, 8, 9] mixed hn hG h (by kernel_rfl) ?_ ?_
        · exact ⟨⟨rfl, fun β => (GOk.plain (op_move (opt 0 rfl)) rfl)⟩, ⟨rfl, fun β => (GOk.plain (op_bin (bin_shru rfl) (opt 0 rfl) (opc (ic (by decide)))) rfl)⟩, ⟨rfl, fun β => (GOk.drop _ (GOk.plain (op_assign (opt 0 rfl)) rfl))⟩, trivial⟩
        clear h
        intro β a w h
        change SatL c [.slot 0 (eqVP p_0), .slot 2 (intVP .i64 (shr .i64 x10 1)), .slot 5 (lpVP p1 0), .slot 8 (lpVP p2 0), .slot 11 (slVP (dC 32) a_3), .slot 12 (intVP .i64 (a_3.length : Int)), .slot 13 (intVP .i64 x11), .res (lb p1 23 [bytesCk 32 x30]), .res (lb p2 23 [bytesCk 32 (List.replicate 32 0)]), .res (Log_e p_0 x31)] a w at h
        clear β
        show Code.wp Tryd.prog _ _ a w
        refine region_do (n := 32) [.slot 30 100000 100000 (fun _ _ => (intVP .i64 (IntKind.wrap .i64 (x11 + 1)))),
      .slot 13 100000 100000 (fun _ _ => (intVP .i64 (IntKind.wrap .i64 (x11 + 1))))] [0, 1] [⟨[6], [], [10], [], some 30⟩, ⟨[10], [6], [11], [0], some 13⟩] [0, 1, 2, 3, 4, 5, 11, 7, 8, 9] mixed hn hG h (by kernel_rfl) ?_ ?_
        · exact ⟨⟨rfl, fun β => (GOk.plain (op_bin bin_add (opt 0 rfl) (opc (ic (by decide)))) rfl)⟩, ⟨rfl, fun β => (GOk.drop _ (GOk.plain (op_move (opt 0 rfl)) rfl))⟩, trivial⟩
        clear h
        intro β a w h
        change SatL c [.slot 0 (eqVP p_0), .slot 2 (intVP .i64 (shr .i64 x10 1)), .slot 5 (lpVP p1 0), .slot 8 (lpVP p2 0), .slot 11 (slVP (dC 32) a_3), .slot 12 (intVP .i64 (a_3.length : Int)), .slot 13 (intVP .i64 (IntKind.wrap .i64 (x11 + 1))), .res (lb p1 23 [bytesCk 32 x30]), .res (lb p2 23 [bytesCk 32 (List.replicate 32 0)]), .res (Log_e p_0 x31)] a w at h
        clear β
        obtain rfl := Option.some.inj hF
        exact ⟨rfl, h.sub [0, 1, 2, 3, 4, 5, 6, 9, 7, 8] (by rfl)⟩
    · replace hF := ff_of hb25 hF
      replace h := h.sub [0, 1, 2, 3, 4, 5, 6, 8, 9, 10] (by rfl)
      change SatL c [.slot 0 (eqVP p_0), .slot 2 (intVP .i64 x10), .slot 5 (lpVP p1 0), .slot 8 (lpVP p2 0), .slot 11 (slVP (dC 32) a_3), .slot 12 (intVP .i64 (a_3.length : Int)), .slot 13 (intVP .i64 x11), .res (Log_e p_0 x12), .res (lb p1 23 [bytesCk 32 x13]), .res (lb p2 23 [bytesCk 32 (List.replicate 32 0)])] a w at h
      refine wp_exit ?_
      obtain rfl := Option.some.inj hF
      exact ⟨exit_ne _, rfl, h.sub [2, 3, 7, 8, 9] (by rfl)⟩
  · clear hl36
    intro e a w hq
    cases cr35 with
    | ret r37 =>
      obtain ⟨rfl, hq⟩ := hq
      obtain rfl := Option.some.inj hF
      exact ⟨.inl rfl, hq⟩
    | next s38 =>
      obtain ⟨y39, y40, y41, y42⟩ := s38
      obtain ⟨rfl, h⟩ := hq
      change SatL c [.slot 5 (lpVP p1 0), .slot 8 (lpVP p2 0), .res (Log_e p_0 y41), .res (lb p1 23 [bytesCk 32 y42]), .res (lb p2 23 [bytesCk 32 (List.replicate 32 0)])] a w at h
      refine inBlock_at ?_
      show Code.wp Tryd.prog _ _ a w
      refine wp_seq ?_
      refine region_do (n := 32) [.slot 31 100000 100000 (fun _ _ => (aggVP [bytesCk 32 y42])),
      .res 100000 100000 (fun _ _ => (lb p2 23 [bytesCk 32 y42]))] [0, 1] [⟨[0, 3], [], [5], [], some 31⟩, ⟨[1, 5], [4], [6], [0], none⟩] [1, 2, 6] mixed hn hG h (by kernel_rfl) ?_ ?_
      · exact ⟨⟨rfl, fun β => (GOk.plain (op_load_lb [] [bytesCk 32 y42] [] 1 Tryd.isAgg23 Tryd.sizeOf23 (opt 0 rfl) rfl rfl rfl) rfl)⟩, ⟨rfl, fun β => (GOk.plain (op_store_lb [] [bytesCk 32 (List.replicate 32 0)] [] [bytesCk 32 y42] Tryd.sizeOf23 (opt 0 rfl) (opt 1 rfl) (cells_agg _) rfl rfl rfl) rfl)⟩, trivial⟩
      clear h
      intro β a w h
      change SatL c [.slot 8 (lpVP p2 0), .res (Log_e p_0 y41), .res (lb p2 23 [bytesCk 32 y42])] a w at h
      clear β
      show Code.wp Tryd.prog _ _ a w
      refine wp_ret ?_
      obtain rfl := Option.some.inj hF
      exact ⟨.inl rfl, ret1 h Tryd.results54 (r_cell 0 2 rfl rfl Tryd.isAgg23 Tryd.sizeOf23 rfl) [1] [(Log_e p_0 y41)] rfl rfl rfl⟩

def keys_Verify.j2 (x9 : Bool) (x10 : Option O_Log) : Option (Bool × (Option O_Log)) := some (x9, x10)
def keys_Verify.j1 (L_0 : Option O_Log) (a_1 : List UInt8) (a_2 : List UInt8) (a_3 : S_api_Sig) (x4 : Bool) : Option (Bool × (Option O_Log)) := (if x4 = true then some (false, L_0) else ((lamport_Opened L_0 a_2 a_3.f_Parts a_3.f_Others).bind fun r6 => (if r6.2.1 = true then ((keys_Climb r6.2.2 r6.1 a_3.f_Index a_3.f_Path).bind fun r8 => keys_Verify.j2 (decide (r8.1 = a_1)) r8.2) else keys_Verify.j2 false r6.2.2)))
def keys_Verify (L_0 : Option O_Log) (a_1 : List UInt8) (a_2 : List UInt8) (a_3 : S_api_Sig) : Option (Bool × (Option O_Log)) := (if (decide (a_3.f_Index < (0 : Int))) = true then keys_Verify.j1 L_0 a_1 a_2 a_3 true else (if (decide ((16 : Int) ≤ a_3.f_Index)) = true then keys_Verify.j1 L_0 a_1 a_2 a_3 true else keys_Verify.j1 L_0 a_1 a_2 a_3 (!decide ((a_3.f_Path.length : Int) = (4 : Int)))))
theorem keys_Verify_ok {p_0 : Value} {L_0 : Option O_Log} {a_1 : List UInt8} {a_2 : List UInt8} {a_3 : S_api_Sig} {r : Bool × (Option O_Log)} (hF : keys_Verify L_0 a_1 a_2 a_3 = some r) : CallOk Tryd.prog KG 17 [(eqVP p_0), (aggVP [bytesCk 32 a_1]), (aggVP [bytesCk 32 a_2]), (aggVP [one (intVP .i64 a_3.f_Index), one (slVP (dC 32) a_3.f_Parts), one (slVP (dC 32) a_3.f_Others), one (slVP (dC 32) a_3.f_Path)])] [(Log_e p_0 L_0)] (fun _ => [Log_e p_0 r.2]) (boolVP r.1) := by
  refine CallOk.intro 47 Tryd.func17 rfl Tryd.ntmps17 (Nat.le_of_ble_eq_true rfl) ?_
  intro c a w hG hn h
  unfold keys_Verify at hF
  change SatL c [.slot 0 (eqVP p_0), .slot 1 (aggVP [bytesCk 32 a_1]), .slot 2 (aggVP [bytesCk 32 a_2]), .slot 3 (aggVP [one (intVP .i64 a_3.f_Index), one (slVP (dC 32) a_3.f_Parts), one (slVP (dC 32) a_3.f_Others), one (slVP (dC 32) a_3.f_Path)]), .res (Log_e p_0 L_0)] a w at h
  refine wp_seq ?_
  refine region_do (n := 47) [.slot 5 0 100000 (fun v1_ _ => (lpVP v1_ 0)),
      .res 0 100000 (fun v1_ _ => (lb (v1_) 23 [bytesCk 32 a_1])),
      .slot 6 1 100000 (fun v1_ _ => (lpVP v1_ 0)),
      .res 1 100000 (fun v1_ _ => (lb (v1_) 23 [bytesCk 32 a_2])),
      .slot 7 2 100000 (fun v1_ _ => (lpVP v1_ 0)),
      .res 2 100000 (fun v1_ _ => (lb (v1_) 31 [one (intVP .i64 a_3.f_Index), one (slVP (dC 32) a_3.f_Parts), one (slVP (dC 32) a_3.f_Others), one (slVP (dC 32) a_3.f_Path)])),
      .slot 8 100000 100000 (fun _ _ => (boolVP false))] [0, 0, 1, 1, 2, 2, 3] [⟨[1], [], [5, 6], [], some 5⟩, ⟨[2], [], [7, 8], [0], some 6⟩, ⟨[3], [], [9, 10], [0, 1], some 7⟩, ⟨[], [], [11], [0, 1, 2], some 8⟩] [0, 5, 7, 9, 4, 6, 8, 10] mixed hn hG h (by kernel_rfl) ?_ ?_
  · exact ⟨⟨rfl, fun β => (GOk.plain (op_box (opt 0 rfl) (cells_agg _)) rfl)⟩, ⟨rfl, fun β => (GOk.plain (op_box (opt 0 rfl) (cells_agg _)) rfl)⟩, ⟨rfl, fun β => (GOk.plain (op_box (opt 0 rfl) (cells_agg _)) rfl)⟩, ⟨rfl, fun β => (GOk.plain (op_assign (opc (bc _))) rfl)⟩, trivial⟩
  clear h
  intro β a w h
  change SatL c [.slot 0 (eqVP p_0), .slot 5 (lpVP (β 0) 0), .slot 6 (lpVP (β 1) 0), .slot 7 (lpVP (β 2) 0), .res (Log_e p_0 L_0), .res (lb (β 0) 23 [bytesCk 32 a_1]), .res (lb (β 1) 23 [bytesCk 32 a_2]), .res (lb (β 2) 31 [one (intVP .i64 a_3.f_Index), one (slVP (dC 32) a_3.f_Parts), one (slVP (dC 32) a_3.f_Others), one (slVP (dC 32) a_3.f_Path)])] a w at h
  generalize β 0 = p1 at h
  generalize β 1 = p2 at h
  generalize β 2 = p3 at h
  clear β
  show Code.wp Tryd.prog _ _ a w
  refine wp_seq ?_
  refine wp_seq ?_
  refine wp_cut (fun a w => ∃ (x4 : Bool), keys_Verify.j1 L_0 a_1 a_2 a_3 x4 = some r ∧ SatL c [.slot 0 (eqVP p_0), .slot 5 (lpVP p1 0), .slot 6 (lpVP p2 0), .slot 7 (lpVP p3 0), .slot 24 (boolVP x4), .res (Log_e p_0 L_0), .res (lb p1 23 [bytesCk 32 a_1]), .res (lb p2 23 [bytesCk 32 a_2]), .res (lb p3 31 [one (intVP .i64 a_3.f_Index), one (slVP (dC 32) a_3.f_Parts), one (slVP (dC 32) a_3.f_Others), one (slVP (dC 32) a_3.f_Path)])] a w) ?_ ?_
  · rcases Bool.eq_false_or_eq_true (decide (a_3.f_Index < (0 : Int))) with hb12 | hb12
    · replace hF := tt_of hb12 hF
      refine region_do (n := 47) [.slot 11 100000 100000 (fun _ _ => (lpVP p3 0)),
      .slot 12 100000 100000 (fun _ _ => (intVP .i64 a_3.f_Index)),
      .slot 13 100000 100000 (fun _ _ => (boolVP (decide (a_3.f_Index < (0 : Int))))),
      .slot 14 100000 100000 (fun _ _ => (boolVP (decide (a_3.f_Index < (0 : Int))))),
      .slot 15 100000 100000 (fun _ _ => (eqVP undef)),
      .slot 16 100000 100000 (fun _ _ => (eqVP undef)),
      .slot 17 100000 100000 (fun _ _ => (eqVP undef)),
      .slot 18 100000 100000 (fun _ _ => (boolVP true)),
      .slot 19 100000 100000 (fun _ _ => (boolVP true)),
      .slot 20 100000 100000 (fun _ _ => (eqVP undef)),
      .slot 21 100000 100000 (fun _ _ => (eqVP undef)),
      .slot 22 100000 100000 (fun _ _ => (eqVP undef)),
      .slot 23 100000 100000 (fun _ _ => (eqVP undef)),
      .slot 24 100000 100000 (fun _ _ => (boolVP true))] [0, 1, 2, 3, 4, 5, 6, 7, 8, 9, 10, 11, 12, 13] [⟨[3], [], [8], [], some 11⟩, ⟨[8, 7], [], [9], [0], some 12⟩, ⟨[9], [], [10], [0, 1], some 13⟩, ⟨[10], [], [11], [0, 1, 2], some 14⟩, ⟨[11], [], [12], [0, 1, 2, 3], some 15⟩, ⟨[11], [], [13], [0, 1, 2, 3, 4], some 16⟩, ⟨[11], [], [14], [0, 1, 2, 3, 4, 5], some 17⟩, ⟨[11], [], [15], [0, 1, 2, 3, 4, 5, 6], some 18⟩, ⟨[15], [], [16], [0, 1, 2, 3, 4, 5, 6, 7], some 19⟩, ⟨[16], [], [17], [0, 1, 2, 3, 4, 5, 6, 7, 8], some 20⟩, ⟨[16], [], [18], [0, 1, 2, 3, 4, 5, 6, 7, 8, 9], some 21⟩, ⟨[16], [], [19], [0, 1, 2, 3, 4, 5, 6, 7, 8, 9, 10], some 22⟩, ⟨[16], [], [20], [0, 1, 2, 3, 4, 5, 6, 7, 8, 9, 10, 11], some 23⟩, ⟨[16], [], [21], [0, 1, 2, 3, 4, 5, 6, 7, 8, 9, 10, 11, 12], some 24⟩] [0, 1, 2, 3, 21, 4, 5, 6, 7] mixed hn hG h (by kernel_rfl) ?_ ?_
      · exact ⟨⟨rfl, fun β => (GOk.plain (op_fieldAddr_lbm (p := p3) (n := 1) 0 0 Tryd.underlying31 rfl Tryd.sizeOf3 (by decide) (opt 0 rfl) rfl) rfl)⟩, ⟨rfl, fun β => (GOk.plain (op_load_lb1 [] [one (slVP (dC 32) a_3.f_Parts), one (slVP (dC 32) a_3.f_Others), one (slVP (dC 32) a_3.f_Path)] 1 Tryd.isAgg3 (opt 0 rfl) rfl rfl) rfl)⟩, ⟨rfl, fun β => (GOk.plain (op_bin bin_lss (opt 0 rfl) (opc (ic (by decide)))) rfl)⟩, ⟨rfl, fun β => (GOk.plain (op_move (opt 0 rfl)) rfl)⟩, ⟨rfl, fun β => (GOk.off_v (want := false) hb12 rfl rfl rfl rfl)⟩, ⟨rfl, fun β => (GOk.off_v (want := false) hb12 rfl rfl rfl rfl)⟩, ⟨rfl, fun β => (GOk.off_v (want := false) hb12 rfl rfl rfl rfl)⟩, ⟨rfl, fun β => (GOk.plain (op_pick_t hb12 (opt 0 rfl) (opc (bc _))) rfl)⟩, ⟨rfl, fun β => (GOk.plain (op_move (opt 0 rfl)) rfl)⟩, ⟨rfl, fun β => (GOk.off_v (want := false) rfl rfl rfl rfl rfl)⟩, ⟨rfl, fun β => (GOk.off_v (want := false) rfl rfl rfl rfl rfl)⟩, ⟨rfl, fun β => (GOk.off_v (want := false) rfl rfl rfl rfl rfl)⟩, ⟨rfl, fun β => (GOk.off_v (want := false) rfl rfl rfl rfl rfl)⟩, ⟨rfl, fun β => (GOk.plain (op_pick_t rfl (opt 0 rfl) (opc (bc _))) rfl)⟩, trivial⟩
      clear h
      intro β a w h
      change SatL c [.slot 0 (eqVP p_0), .slot 5 (lpVP p1 0), .slot 6 (lpVP p2 0), .slot 7 (lpVP p3 0), .slot 24 (boolVP true), .res (Log_e p_0 L_0), .res (lb p1 23 [bytesCk 32 a_1]), .res (lb p2 23 [bytesCk 32 a_2]), .res (lb p3 31 [one (intVP .i64 a_3.f_Index), one (slVP (dC 32) a_3.f_Parts), one (slVP (dC 32) a_3.f_Others), one (slVP (dC 32) a_3.f_Path)])] a w at h
      clear β
      exact ⟨true, hF, h.sub [0, 1, 2, 3, 4, 5, 6, 7, 8] (by rfl)⟩
    · replace hF := ff_of hb12 hF
      rcases Bool.eq_false_or_eq_true (decide ((16 : Int) ≤ a_3.f_Index)) with hb13 | hb13
      · replace hF := tt_of hb13 hF
        refine region_do (n := 47) [.slot 11 100000 100000 (fun _ _ => (lpVP p3 0)),
      .slot 12 100000 100000 (fun _ _ => (intVP .i64 a_3.f_Index)),
      .slot 13 100000 100000 (fun _ _ => (boolVP (decide (a_3.f_Index < (0 : Int))))),
      .slot 14 100000 100000 (fun _ _ => (boolVP (decide (a_3.f_Index < (0 : Int))))),
      .slot 15 100000 100000 (fun _ _ => (lpVP p3 0)),
      .slot 16 100000 100000 (fun _ _ => (intVP .i64 a_3.f_Index)),
      .slot 17 100000 100000 (fun _ _ => (boolVP (decide ((16 : Int) ≤ a_3.f_Index)))),
      .slot 18 100000 100000 (fun _ _ => (boolVP (decide ((16 : Int) ≤ a_3.f_Index)))),
      .slot 19 100000 100000 (fun _ _ => (boolVP (decide ((16 : Int) ≤ a_3.f_Index)))),
      .slot 20 100000 100000 (fun _ _ => (eqVP undef)),
      .slot 21 100000 100000 (fun _ _ => (eqVP undef)),
      .slot 22 100000 100000 (fun _ _ => (eqVP undef)),
      .slot 23 100000 100000 (fun _ _ => (eqVP undef)),
      .slot 24 100000 100000 (fun _ _ => (boolVP true))] [0, 1, 2, 3, 4, 5, 6, 7, 8, 9, 10, 11, 12, 13] [⟨[3], [], [8], [], some 11⟩, ⟨[8, 7], [], [9], [0], some 12⟩, ⟨[9], [], [10], [0, 1], some 13⟩, ⟨[10], [], [11], [0, 1, 2], some 14⟩, ⟨[11, 3], [], [12], [0, 1, 2, 3], some 15⟩, ⟨[11, 12, 7], [], [13], [0, 1, 2, 3, 4], some 16⟩, ⟨[11, 13], [], [14], [0, 1, 2, 3, 4, 5], some 17⟩, ⟨[11, 14], [], [15], [0, 1, 2, 3, 4, 5, 6], some 18⟩, ⟨[15], [], [16], [0, 1, 2, 3, 4, 5, 6, 7], some 19⟩, ⟨[16], [], [17], [0, 1, 2, 3, 4, 5, 6, 7, 8], some 20⟩, ⟨[16], [], [18], [0, 1, 2, 3, 4, 5, 6, 7, 8, 9], some 21⟩, ⟨[16], [], [19], [0, 1, 2, 3, 4, 5, 6, 7, 8, 9, 10], some 22⟩, ⟨[16], [], [20], [0, 1, 2, 3, 4, 5, 6, 7, 8, 9, 10, 11], some 23⟩, ⟨[16], [], [21], [0, 1, 2, 3, 4, 5, 6, 7, 8, 9, 10, 11, 12], some 24⟩] [0, 1, 2, 3, 21, 4, 5, 6, 7] mixed hn hG h (by kernel_rfl) ?_ ?_
        · exact ⟨⟨rfl, fun β => (GOk.plain (op_fieldAddr_lbm (p := p3) (n := 1) 0 0 Tryd.underlying31 rfl Tryd.sizeOf3 (by decide) (opt 0 rfl) rfl) rfl)⟩, ⟨rfl, fun β => (GOk.plain (op_load_lb1 [] [one (slVP (dC 32) a_3.f_Parts), one (slVP (dC 32) a_3.f_Others), one (slVP (dC 32) a_3.f_Path)] 1 Tryd.isAgg3 (opt 0 rfl) rfl rfl) rfl)⟩, ⟨rfl, fun β => (GOk.plain (op_bin bin_lss (opt 0 rfl) (opc (ic (by decide)))) rfl)⟩, ⟨rfl, fun β => (GOk.plain (op_move (opt 0 rfl)) rfl)⟩, ⟨rfl, fun β => (GOk.on_eq hb12 rfl rfl rfl (op_fieldAddr_lbm (p := p3) (n := 1) 0 0 Tryd.underlying31 rfl Tryd.sizeOf3 (by decide) (opt 0 rfl) rfl))⟩, ⟨rfl, fun β => (GOk.on_eq hb12 rfl rfl rfl (op_load_lb1 [] [one (slVP (dC 32) a_3.f_Parts), one (slVP (dC 32) a_3.f_Others), one (slVP (dC 32) a_3.f_Path)] 1 Tryd.isAgg3 (opt 0 rfl) rfl rfl))⟩, ⟨rfl, fun β => (GOk.on_eq hb12 rfl rfl rfl (op_bin bin_geq (opt 0 rfl) (opc (ic (by decide)))))⟩, ⟨rfl, fun β => (GOk.plain (op_pick_f hb12 (opt 0 rfl) (opt 1 rfl)) rfl)⟩, ⟨rfl, fun β => (GOk.plain (op_move (opt 0 rfl)) rfl)⟩, ⟨rfl, fun β => (GOk.off_v (want := false) hb13 rfl rfl rfl rfl)⟩, ⟨rfl, fun β => (GOk.off_v (want := false) hb13 rfl rfl rfl rfl)⟩, ⟨rfl, fun β => (GOk.off_v (want := false) hb13 rfl rfl rfl rfl)⟩, ⟨rfl, fun β => (GOk.off_v (want := false) hb13 rfl rfl rfl rfl)⟩, ⟨rfl, fun β => (GOk.plain (op_pick_t hb13 (opt 0 rfl) (opc (bc _))) rfl)⟩, trivial⟩
        clear h
        intro β a w h
        change SatL c [.slot 0 (eqVP p_0), .slot 5 (lpVP p1 0), .slot 6 (lpVP p2 0), .slot 7 (lpVP p3 0), .slot 24 (boolVP true), .res (Log_e p_0 L_0), .res (lb p1 23 [bytesCk 32 a_1]), .res (lb p2 23 [bytesCk 32 a_2]), .res (lb p3 31 [one (intVP .i64 a_3.f_Index), one (slVP (dC 32) a_3.f_Parts), one (slVP (dC 32) a_3.f_Others), one (slVP (dC 32) a_3.f_Path)])] a w at h
        clear β
        exact ⟨true, hF, h.sub [0, 1, 2, 3, 4, 5, 6, 7, 8] (by rfl)⟩
      · replace hF := ff_of hb13 hF
        refine region_do (n := 47) [.slot 11 100000 100000 (fun _ _ => (lpVP p3 0)),
      .slot 12 100000 100000 (fun _ _ => (intVP .i64 a_3.f_Index)),
      .slot 13 100000 100000 (fun _ _ => (boolVP (decide (a_3.f_Index < (0 : Int))))),
      .slot 14 100000 100000 (fun _ _ => (boolVP (decide (a_3.f_Index < (0 : Int))))),
      .slot 15 100000 100000 (fun _ _ => (lpVP p3 0)),
      .slot 16 100000 100000 (fun _ _ => (intVP .i64 a_3.f_Index)),
      .slot 17 100000 100000 (fun _ _ => (boolVP (decide ((16 : Int) ≤ a_3.f_Index)))),
      .slot 18 100000 100000 (fun _ _ => (boolVP (decide ((16 : Int) ≤ a_3.f_Index)))),
      .slot 19 100000 100000 (fun _ _ => (boolVP (decide ((16 : Int) ≤ a_3.f_Index)))),
      .slot 20 100000 100000 (fun _ _ => (lpVP p3 3)),
      .slot 21 100000 100000 (fun _ _ => (slVP (dC 32) a_3.f_Path)),
      .slot 22 100000 100000 (fun _ _ => (intVP .i64 (a_3.f_Path.length : Int))),
      .slot 23 100000 100000 (fun _ _ => (boolVP (!decide ((a_3.f_Path.length : Int) = (4 : Int))))),
      .slot 24 100000 100000 (fun _ _ => (boolVP (!decide ((a_3.f_Path.length : Int) = (4 : Int)))))] [0, 1, 2, 3, 4, 5, 6, 7, 8, 9, 10, 11, 12, 13] [⟨[3], [], [8], [], some 11⟩, ⟨[8, 7], [], [9], [0], some 12⟩, ⟨[9], [], [10], [0, 1], some 13⟩, ⟨[10], [], [11], [0, 1, 2], some 14⟩, ⟨[11, 3], [], [12], [0, 1, 2, 3], some 15⟩, ⟨[11, 12, 7], [], [13], [0, 1, 2, 3, 4], some 16⟩, ⟨[11, 13], [], [14], [0, 1, 2, 3, 4, 5], some 17⟩, ⟨[11, 14], [], [15], [0, 1, 2, 3, 4, 5, 6], some 18⟩, ⟨[15], [], [16], [0, 1, 2, 3, 4, 5, 6, 7], some 19⟩, ⟨[16, 3], [], [17], [0, 1, 2, 3, 4, 5, 6, 7, 8], some 20⟩, ⟨[16, 17, 7], [], [18], [0, 1, 2, 3, 4, 5, 6, 7, 8, 9], some 21⟩, ⟨[16, 18], [], [19], [0, 1, 2, 3, 4, 5, 6, 7, 8, 9, 10], some 22⟩, ⟨[16, 19], [], [20], [0, 1, 2, 3, 4, 5, 6, 7, 8, 9, 10, 11], some 23⟩, ⟨[16, 20], [], [21], [0, 1, 2, 3, 4, 5, 6, 7, 8, 9, 10, 11, 12], some 24⟩] [0, 1, 2, 3, 21, 4, 5, 6, 7] mixed hn hG h (by kernel_rfl) ?_ ?_
        · exact ⟨⟨rfl, fun β => (GOk.plain (op_fieldAddr_lbm (p := p3) (n := 1) 0 0 Tryd.underlying31 rfl Tryd.sizeOf3 (by decide) (opt 0 rfl) rfl) rfl)⟩, ⟨rfl, fun β => (GOk.plain (op_load_lb1 [] [one (slVP (dC 32) a_3.f_Parts), one (slVP (dC 32) a_3.f_Others), one (slVP (dC 32) a_3.f_Path)] 1 Tryd.isAgg3 (opt 0 rfl) rfl rfl) rfl)⟩, ⟨rfl, fun β => (GOk.plain (op_bin bin_lss (opt 0 rfl) (opc (ic (by decide)))) rfl)⟩, ⟨rfl, fun β => (GOk.plain (op_move (opt 0 rfl)) rfl)⟩, ⟨rfl, fun β => (GOk.on_eq hb12 rfl rfl rfl (op_fieldAddr_lbm (p := p3) (n := 1) 0 0 Tryd.underlying31 rfl Tryd.sizeOf3 (by decide) (opt 0 rfl) rfl))⟩, ⟨rfl, fun β => (GOk.on_eq hb12 rfl rfl rfl (op_load_lb1 [] [one (slVP (dC 32) a_3.f_Parts), one (slVP (dC 32) a_3.f_Others), one (slVP (dC 32) a_3.f_Path)] 1 Tryd.isAgg3 (opt 0 rfl) rfl rfl))⟩, ⟨rfl, fun β => (GOk.on_eq hb12 rfl rfl rfl (op_bin bin_geq (opt 0 rfl) (opc (ic (by decide)))))⟩, ⟨rfl, fun β => (GOk.plain (op_pick_f hb12 (opt 0 rfl) (opt 1 rfl)) rfl)⟩, ⟨rfl, fun β => (GOk.plain (op_move (opt 0 rfl)) rfl)⟩, ⟨rfl, fun β => (GOk.on_eq hb13 rfl rfl rfl (op_fieldAddr_lbm (p := p3) (n := 1) 0 3 Tryd.underlying31 rfl Tryd.sizeOf24 (by decide) (opt 0 rfl) rfl))⟩, ⟨rfl, fun β => (GOk.on_eq hb13 rfl rfl rfl (op_load_lb1 [one (intVP .i64 a_3.f_Index), one (slVP (dC 32) a_3.f_Parts), one (slVP (dC 32) a_3.f_Others)] [] 1 Tryd.isAgg24 (opt 0 rfl) rfl rfl))⟩, ⟨rfl, fun β => (GOk.on_eq hb13 rfl rfl rfl (op_len_sl Tryd.underlying24 (opt 0 rfl)))⟩, ⟨rfl, fun β => (GOk.on_eq hb13 rfl rfl rfl (op_bin bin_neq (opt 0 rfl) (opc (ic (by decide)))))⟩, ⟨rfl, fun β => (GOk.plain (op_pick_f hb13 (opt 0 rfl) (opt 1 rfl)) rfl)⟩, trivial⟩
        clear h
        intro β a w h
        change SatL c [.slot 0 (eqVP p_0), .slot 5 (lpVP p1 0), .slot 6 (lpVP p2 0), .slot 7 (lpVP p3 0), .slot 24 (boolVP (!decide ((a_3.f_Path.length : Int) = (4 : Int)))), .res (Log_e p_0 L_0), .res (lb p1 23 [bytesCk 32 a_1]), .res (lb p2 23 [bytesCk 32 a_2]), .res (lb p3 31 [one (intVP .i64 a_3.f_Index), one (slVP (dC 32) a_3.f_Parts), one (slVP (dC 32) a_3.f_Others), one (slVP (dC 32) a_3.f_Path)])] a w at h
        clear β
        exact ⟨!decide ((a_3.f_Path.length : Int) = (4 : Int)), hF, h.sub [0, 1, 2, 3, 4, 5, 6, 7, 8] (by rfl)⟩
  · clear h hF
    rintro a w ⟨x4, hF, h⟩
    unfold keys_Verify.j1 at hF
    show Code.wp Tryd.prog _ _ a w
    refine cond_L h 4 rfl (fun hb5 => ?_) (fun hb5 => ?_)
    · replace hF := tt_of hb5 hF
      replace h := h.sub [5] (by rfl)
      change SatL c [.res (Log_e p_0 L_0)] a w at h
      refine wp_seq ?_
      refine region_do (n := 47) [.slot 8 100000 100000 (fun _ _ => (boolVP false))] [0] [⟨[], [], [1], [], some 8⟩] [1, 0] mixed hn hG h (by kernel_rfl) ?_ ?_
      · exact ⟨⟨rfl, fun β => (GOk.plain (op_assign (opc (bc _))) rfl)⟩, trivial⟩
      clear h
      intro β a w h
      change SatL c [.slot 8 (boolVP false), .res (Log_e p_0 L_0)] a w at h
      clear β
      show Code.wp Tryd.prog _ _ a w
      refine wp_ret ?_
      obtain rfl := Option.some.inj hF
      exact ⟨.inl rfl, ret1 h Tryd.results17 (r_tmp 0 rfl) [1] [(Log_e p_0 L_0)] rfl rfl rfl⟩
    · replace hF := ff_of hb5 hF
      replace h := h.sub [0, 1, 2, 3, 5, 6, 7, 8] (by rfl)
      change SatL c [.slot 0 (eqVP p_0), .slot 5 (lpVP p1 0), .slot 6 (lpVP p2 0), .slot 7 (lpVP p3 0), .res (Log_e p_0 L_0), .res (lb p1 23 [bytesCk 32 a_1]), .res (lb p2 23 [bytesCk 32 a_2]), .res (lb p3 31 [one (intVP .i64 a_3.f_Index), one (slVP (dC 32) a_3.f_Parts), one (slVP (dC 32) a_3.f_Others), one (slVP (dC 32) a_3.f_Path)])] a w at h
      refine wp_skip ?_
      show Code.wp Tryd.prog _ _ a w
      refine wp_seq ?_
      obtain ⟨r6, hr6, hF⟩ := bind_some hF
      refine region_do (n := 47) [.slot 26 100000 100000 (fun _ _ => (eqVP p_0)),
      .slot 27 100000 100000 (fun _ _ => (aggVP [bytesCk 32 a_2])),
      .slot 28 100000 100000 (fun _ _ => (lpVP p3 1)),
      .slot 29 100000 100000 (fun _ _ => (slVP (dC 32) a_3.f_Parts)),
      .slot 30 100000 100000 (fun _ _ => (lpVP p3 2)),
      .slot 31 100000 100000 (fun _ _ => (slVP (dC 32) a_3.f_Others)),
      .slot 32 100000 100000 (fun _ _ => (tupVP [(aggVP [bytesCk 32 r6.1]), (boolVP r6.2.1)])),
      .res 100000 100000 (fun _ _ => (Log_e p_0 r6.2.2)),
      .slot 25 100000 100000 (fun _ _ => (tupVP [(aggVP [bytesCk 32 r6.1]), (boolVP r6.2.1)])),
      .slot 33 100000 100000 (fun _ _ => (aggVP [bytesCk 32 r6.1])),
      .slot 34 100000 100000 (fun _ _ => (boolVP r6.2.1)),
      .slot 9 10 100000 (fun v1_ _ => (lpVP v1_ 0)),
      .res 10 100000 (fun v1_ _ => (lb (v1_) 23 [bytesCk 32 (List.replicate 32 0)])),
      .res 10 100000 (fun v1_ _ => (lb (v1_) 23 [bytesCk 32 r6.1])),
      .slot 10 100000 100000 (fun _ _ => (boolVP r6.2.1))] [0, 1, 2, 3, 4, 5, 6, 6, 7, 8, 9, 10, 10, 11, 12] [⟨[0], [], [8], [], some 26⟩, ⟨[2, 6], [], [9], [0], some 27⟩, ⟨[3], [], [10], [0, 1], some 28⟩, ⟨[10, 7], [], [11], [0, 1, 2], some 29⟩, ⟨[3], [], [12], [0, 1, 2, 3], some 30⟩, ⟨[12, 7], [], [13], [0, 1, 2, 3, 4], some 31⟩, ⟨[8, 9, 11, 13], [4], [14, 15], [0, 1, 2, 3, 4, 5], some 32⟩, ⟨[14], [], [16], [0, 1, 2, 3, 4, 5, 6], some 25⟩, ⟨[16], [], [17], [0, 1, 2, 3, 4, 5, 6, 7], some 33⟩, ⟨[16], [], [18], [0, 1, 2, 3, 4, 5, 6, 7, 8], some 34⟩, ⟨[], [], [19, 20], [0, 1, 2, 3, 4, 5, 6, 7, 8, 9], some 9⟩, ⟨[19, 17], [20], [21], [0, 1, 2, 3, 4, 5, 6, 7, 8, 9, 10], none⟩, ⟨[18], [], [22], [0, 1, 2, 3, 4, 5, 6, 7, 8, 9, 10, 11], some 10⟩] [0, 1, 3, 19, 22, 5, 7, 15, 21] mixed hn hG h (by kernel_rfl) ?_ ?_
      · exact ⟨⟨rfl, fun β => (GOk.plain (op_move (opt 0 rfl)) rfl)⟩, ⟨rfl, fun β => (GOk.plain (op_load_lb [] [bytesCk 32 a_2] [] 1 Tryd.isAgg23 Tryd.sizeOf23 (opt 0 rfl) rfl rfl rfl) rfl)⟩, ⟨rfl, fun β => (GOk.plain (op_fieldAddr_lbm (p := p3) (n := 1) 0 1 Tryd.underlying31 rfl Tryd.sizeOf24 (by decide) (opt 0 rfl) rfl) rfl)⟩, ⟨rfl, fun β => (GOk.plain (op_load_lb1 [one (intVP .i64 a_3.f_Index)] [one (slVP (dC 32) a_3.f_Others), one (slVP (dC 32) a_3.f_Path)] 1 Tryd.isAgg24 (opt 0 rfl) rfl rfl) rfl)⟩, ⟨rfl, fun β => (GOk.plain (op_fieldAddr_lbm (p := p3) (n := 1) 0 2 Tryd.underlying31 rfl Tryd.sizeOf24 (by decide) (opt 0 rfl) rfl) rfl)⟩, ⟨rfl, fun β => (GOk.plain (op_load_lb1 [one (intVP .i64 a_3.f_Index), one (slVP (dC 32) a_3.f_Parts)] [one (slVP (dC 32) a_3.f_Path)] 1 Tryd.isAgg24 (opt 0 rfl) rfl rfl) rfl)⟩, ⟨rfl, fun β => (GOk.plain (op_call Tryd.call53 (lamport_Opened_ok hr6) ⟨(opt 0 rfl), (opt 1 rfl), (opt 2 rfl), (opt 3 rfl), trivial⟩) rfl)⟩, ⟨rfl, fun β => (GOk.plain (op_move (opt 0 rfl)) rfl)⟩, ⟨rfl, fun β => (GOk.plain (op_extract (opt 0 rfl) rfl) rfl)⟩, ⟨rfl, fun β => (GOk.plain (op_extract (opt 0 rfl) rfl) rfl)⟩, ⟨rfl, fun β => (GOk.plain (op_alloc Tryd.zeroValue23 z23) rfl)⟩, ⟨rfl, fun β => (GOk.plain (op_store_lb [] [bytesCk 32 (List.replicate 32 0)] [] [bytesCk 32 r6.1] Tryd.sizeOf23 (opt 0 rfl) (opt 1 rfl) (cells_agg _) rfl rfl rfl) rfl)⟩, ⟨rfl, fun β => (GOk.plain (op_assign (opt 0 rfl)) rfl)⟩, trivial⟩
      clear h
      intro β a w h
      change SatL c [.slot 0 (eqVP p_0), .slot 5 (lpVP p1 0), .slot 7 (lpVP p3 0), .slot 9 (lpVP (β 10) 0), .slot 10 (boolVP r6.2.1), .res (lb p1 23 [bytesCk 32 a_1]), .res (lb p3 31 [one (intVP .i64 a_3.f_Index), one (slVP (dC 32) a_3.f_Parts), one (slVP (dC 32) a_3.f_Others), one (slVP (dC 32) a_3.f_Path)]), .res (Log_e p_0 r6.2.2), .res (lb (β 10) 23 [bytesCk 32 r6.1])] a w at h
      generalize β 10 = p7 at h
      clear β
      show Code.wp Tryd.prog _ _ a w
      refine wp_seq ?_
      refine wp_cut (fun a w => ∃ (x9 : Bool), ∃ (x10 : Option O_Log), keys_Verify.j2 x9 x10 = some r ∧ SatL c [.slot 8 (boolVP x9), .res (Log_e p_0 x10)] a w) ?_ ?_
      · rcases Bool.eq_false_or_eq_true r6.2.1 with hb11 | hb11
        · replace hF := tt_of hb11 hF
          obtain ⟨r8, hr8, hF⟩ := bind_some hF
          refine region_do (n := 47) [.slot 35 100000 100000 (fun _ _ => (boolVP r6.2.1)),
      .slot 36 100000 100000 (fun _ _ => (boolVP r6.2.1)),
      .slot 37 100000 100000 (fun _ _ => (eqVP p_0)),
      .slot 38 100000 100000 (fun _ _ => (aggVP [bytesCk 32 r6.1])),
      .slot 39 100000 100000 (fun _ _ => (lpVP p3 0)),
      .slot 40 100000 100000 (fun _ _ => (intVP .i64 a_3.f_Index)),
      .slot 41 100000 100000 (fun _ _ => (lpVP p3 3)),
      .slot 42 100000 100000 (fun _ _ => (slVP (dC 32) a_3.f_Path)),
      .slot 43 100000 100000 (fun _ _ => (aggVP [bytesCk 32 r8.1])),
      .res 100000 100000 (fun _ _ => (Log_e p_0 r8.2)),
      .slot 44 100000 100000 (fun _ _ => (aggVP [bytesCk 32 a_1])),
      .slot 45 100000 100000 (fun _ _ => (boolVP (decide (r8.1 = a_1)))),
      .slot 46 100000 100000 (fun _ _ => (boolVP (decide (r8.1 = a_1)))),
      .slot 8 100000 100000 (fun _ _ => (boolVP (decide (r8.1 = a_1))))] [0, 1, 2, 3, 4, 5, 6, 7, 8, 8, 9, 10, 11, 12] [⟨[4], [], [9], [], some 35⟩, ⟨[9], [], [10], [0], some 36⟩, ⟨[10, 0], [], [11], [0, 1], some 37⟩, ⟨[10, 3, 8], [], [12], [0, 1], some 38⟩, ⟨[10, 2], [], [13], [0, 1], some 39⟩, ⟨[10, 13, 6], [], [14], [0, 1, 4], some 40⟩, ⟨[10, 2], [], [15], [0, 1], some 41⟩, ⟨[10, 15, 6], [], [16], [0, 1, 6], some 42⟩, ⟨[10, 11, 12, 14, 16], [7], [17, 18], [0, 1, 2, 3, 4, 5, 6, 7], some 43⟩, ⟨[10, 1, 5], [], [19], [0, 1], some 44⟩, ⟨[10, 17, 19], [], [20], [0, 1, 2, 3, 4, 5, 6, 7, 8, 9], some 45⟩, ⟨[10, 20], [], [21], [0, 1, 2, 3, 4, 5, 6, 7, 8, 9, 10], some 46⟩, ⟨[21], [], [22], [0, 1, 2, 3, 4, 5, 6, 7, 8, 9, 10, 11], some 8⟩] [22, 18] mixed hn hG h (by kernel_rfl) ?_ ?_
          · exact ⟨⟨rfl, fun β => (GOk.plain (op_move (opt 0 rfl)) rfl)⟩, ⟨rfl, fun β => (GOk.plain (op_move (opt 0 rfl)) rfl)⟩, ⟨rfl, fun β => (GOk.on_eq hb11 rfl rfl rfl (op_move (opt 0 rfl)))⟩, ⟨rfl, fun β => (GOk.on_eq hb11 rfl rfl rfl (op_load_lb [] [bytesCk 32 r6.1] [] 1 Tryd.isAgg23 Tryd.sizeOf23 (opt 0 rfl) rfl rfl rfl))⟩, ⟨rfl, fun β => (GOk.on_eq hb11 rfl rfl rfl (op_fieldAddr_lbm (p := p3) (n := 1) 0 0 Tryd.underlying31 rfl Tryd.sizeOf3 (by decide) (opt 0 rfl) rfl))⟩, ⟨rfl, fun β => (GOk.on_eq hb11 rfl rfl rfl (op_load_lb1 [] [one (slVP (dC 32) a_3.f_Parts), one (slVP (dC 32) a_3.f_Others), one (slVP (dC 32) a_3.f_Path)] 1 Tryd.isAgg3 (opt 0 rfl) rfl rfl))⟩, ⟨rfl, fun β => (GOk.on_eq hb11 rfl rfl rfl (op_fieldAddr_lbm (p := p3) (n := 1) 0 3 Tryd.underlying31 rfl Tryd.sizeOf24 (by decide) (opt 0 rfl) rfl))⟩, ⟨rfl, fun β => (GOk.on_eq hb11 rfl rfl rfl (op_load_lb1 [one (intVP .i64 a_3.f_Index), one (slVP (dC 32) a_3.f_Parts), one (slVP (dC 32) a_3.f_Others)] [] 1 Tryd.isAgg24 (opt 0 rfl) rfl rfl))⟩, ⟨rfl, fun β => (GOk.on_eq hb11 rfl rfl rfl (op_call Tryd.call54 (keys_Climb_ok hr8) ⟨(opt 0 rfl), (opt 1 rfl), (opt 2 rfl), (opt 3 rfl), trivial⟩))⟩, ⟨rfl, fun β => (GOk.on_eq hb11 rfl rfl rfl (op_load_lb [] [bytesCk 32 a_1] [] 1 Tryd.isAgg23 Tryd.sizeOf23 (opt 0 rfl) rfl rfl rfl))⟩, ⟨rfl, fun β => (GOk.on_eq hb11 rfl rfl rfl (op_bin (bin_aeql Tryd.underlying23 Tryd.underlying5 Tryd.type5 Tryd.sizeOf5 Tryd.isAgg5 Tryd.eqGuardType23) (opt 0 rfl) (opt 1 rfl)))⟩, ⟨rfl, fun β => (GOk.plain (op_pick_t hb11 (opt 0 rfl) (opt 1 rfl)) rfl)⟩, ⟨rfl, fun β => (GOk.plain (op_assign (opt 0 rfl)) rfl)⟩, trivial⟩
          clear h
          intro β a w h
          change SatL c [.slot 8 (boolVP (decide (r8.1 = a_1))), .res (Log_e p_0 r8.2)] a w at h
          clear β
          exact ⟨decide (r8.1 = a_1), r8.2, hF, h.sub [0, 1] (by rfl)⟩
        · replace hF := ff_of hb11 hF
          refine region_do (n := 47) [.slot 35 100000 100000 (fun _ _ => (boolVP r6.2.1)),
      .slot 36 100000 100000 (fun _ _ => (boolVP r6.2.1)),
      .slot 37 100000 100000 (fun _ _ => (eqVP undef)),
      .slot 38 100000 100000 (fun _ _ => (eqVP undef)),
      .slot 39 100000 100000 (fun _ _ => (eqVP undef)),
      .slot 40 100000 100000 (fun _ _ => (eqVP undef)),
      .slot 41 100000 100000 (fun _ _ => (eqVP undef)),
      .slot 42 100000 100000 (fun _ _ => (eqVP undef)),
      .slot 43 100000 100000 (fun _ _ => (eqVP undef)),
      .slot 44 100000 100000 (fun _ _ => (eqVP undef)),
      .slot 45 100000 100000 (fun _ _ => (eqVP undef)),
      .slot 46 100000 100000 (fun _ _ => (boolVP false)),
      .slot 8 100000 100000 (fun _ _ => (boolVP false))] [0, 1, 2, 3, 4, 5, 6, 7, 8, 9, 10, 11, 12] [⟨[4], [], [9], [], some 35⟩, ⟨[9], [], [10], [0], some 36⟩, ⟨[10], [], [11], [0, 1], some 37⟩, ⟨[10], [], [12], [0, 1], some 38⟩, ⟨[10], [], [13], [0, 1], some 39⟩, ⟨[10], [], [14], [0, 1, 4], some 40⟩, ⟨[10], [], [15], [0, 1], some 41⟩, ⟨[10], [], [16], [0, 1, 6], some 42⟩, ⟨[10], [], [17], [0, 1, 2, 3, 4, 5, 6, 7], some 43⟩, ⟨[10], [], [18], [0, 1], some 44⟩, ⟨[10], [], [19], [0, 1, 2, 3, 4, 5, 6, 7, 8, 9], some 45⟩, ⟨[10], [], [20], [0, 1, 2, 3, 4, 5, 6, 7, 8, 9, 10], some 46⟩, ⟨[20], [], [21], [0, 1, 2, 3, 4, 5, 6, 7, 8, 9, 10, 11], some 8⟩] [21, 7] mixed hn hG h (by kernel_rfl) ?_ ?_
          · exact ⟨⟨rfl, fun β => (GOk.plain (op_move (opt 0 rfl)) rfl)⟩, ⟨rfl, fun β => (GOk.plain (op_move (opt 0 rfl)) rfl)⟩, ⟨rfl, fun β => (GOk.off_v (want := true) hb11 rfl rfl rfl rfl)⟩, ⟨rfl, fun β => (GOk.off_v (want := true) hb11 rfl rfl rfl rfl)⟩, ⟨rfl, fun β => (GOk.off_v (want := true) hb11 rfl rfl rfl rfl)⟩, ⟨rfl, fun β => (GOk.off_v (want := true) hb11 rfl rfl rfl rfl)⟩, ⟨rfl, fun β => (GOk.off_v (want := true) hb11 rfl rfl rfl rfl)⟩, ⟨rfl, fun β => (GOk.off_v (want := true) hb11 rfl rfl rfl rfl)⟩, ⟨rfl, fun β => (GOk.off_v (want := true) hb11 rfl rfl rfl rfl)⟩, ⟨rfl, fun β => (GOk.off_v (want := true) hb11 rfl rfl rfl rfl)⟩, ⟨rfl, fun β => (GOk.off_v (want := true) hb11 rfl rfl rfl rfl)⟩, ⟨rfl, fun β => (GOk.plain (op_pick_f hb11 (opt 0 rfl) (opc (bc _))) rfl)⟩, ⟨rfl, fun β => (GOk.plain (op_assign (opt 0 rfl)) rfl)⟩, trivial⟩
          clear h
          intro β a w h
          change SatL c [.slot 8 (boolVP false), .res (Log_e p_0 r6.2.2)] a w at h
          clear β
          exact ⟨false, r6.2.2, hF, h.sub [0, 1] (by rfl)⟩
      · clear h hF
        rintro a w ⟨x9, x10, hF, h⟩
        unfold keys_Verify.j2 at hF
        show Code.wp Tryd.prog _ _ a w
        refine wp_ret ?_
        obtain rfl := Option.some.inj hF
        exact ⟨.inl rfl, ret1 h Tryd.results17 (r_tmp 0 rfl) [1] [(Log_e p_0 x10)] rfl rfl rfl⟩

def update_Right (L_0 : Option O_Log) (a_1 : List UInt8) (a_2 : S_api_Update) : Option (Bool × (Option O_Log)) := ((update_Claim L_0 a_2.f_Home a_2.f_Old a_2.f_New).bind fun r3 => ((keys_Verify r3.2 a_1 r3.1 a_2.f_Sig).bind fun r4 => some (r4.1, r4.2)))
theorem update_Right_ok {p_0 : Value} {L_0 : Option O_Log} {a_1 : List UInt8} {a_2 : S_api_Update} {r : Bool × (Option O_Log)} (hF : update_Right L_0 a_1 a_2 = some r) : CallOk Tryd.prog KG 27 [(eqVP p_0), (aggVP [bytesCk 32 a_1]), (aggVP [one (intVP .u32 a_2.f_Home), bytesCk 32 a_2.f_Old, bytesCk 32 a_2.f_New, one (intVP .i64 a_2.f_Sig.f_Index), one (slVP (dC 32) a_2.f_Sig.f_Parts), one (slVP (dC 32) a_2.f_Sig.f_Others), one (slVP (dC 32) a_2.f_Sig.f_Path)])] [(Log_e p_0 L_0)] (fun _ => [Log_e p_0 r.2]) (boolVP r.1) := by
  refine CallOk.intro 20 Tryd.func27 rfl Tryd.ntmps27 (Nat.le_of_ble_eq_true rfl) ?_
  intro c a w hG hn h
  unfold update_Right at hF
  change SatL c [.slot 0 (eqVP p_0), .slot 1 (aggVP [bytesCk 32 a_1]), .slot 2 (aggVP [one (intVP .u32 a_2.f_Home), bytesCk 32 a_2.f_Old, bytesCk 32 a_2.f_New, one (intVP .i64 a_2.f_Sig.f_Index), one (slVP (dC 32) a_2.f_Sig.f_Parts), one (slVP (dC 32) a_2.f_Sig.f_Others), one (slVP (dC 32) a_2.f_Sig.f_Path)]), .res (Log_e p_0 L_0)] a w at h
  refine wp_seq ?_
  refine region_do (n := 20) [.slot 4 0 100000 (fun v1_ _ => (lpVP v1_ 0)),
      .res 0 100000 (fun v1_ _ => (lb (v1_) 23 [bytesCk 32 a_1])),
      .slot 5 1 100000 (fun v1_ _ => (lpVP v1_ 0)),
      .res 1 100000 (fun v1_ _ => (lb (v1_) 53 [one (intVP .u32 a_2.f_Home), bytesCk 32 a_2.f_Old, bytesCk 32 a_2.f_New, one (intVP .i64 a_2.f_Sig.f_Index), one (slVP (dC 32) a_2.f_Sig.f_Parts), one (slVP (dC 32) a_2.f_Sig.f_Others), one (slVP (dC 32) a_2.f_Sig.f_Path)])),
      .slot 6 100000 100000 (fun _ _ => (boolVP false))] [0, 0, 1, 1, 2] [⟨[1], [], [4, 5], [], some 4⟩, ⟨[2], [], [6, 7], [0], some 5⟩, ⟨[], [], [8], [0, 1], some 6⟩] [0, 4, 6, 3, 5, 7] mixed hn hG h (by kernel_rfl) ?_ ?_
  · exact ⟨⟨rfl, fun β => (GOk.plain (op_box (opt 0 rfl) (cells_agg _)) rfl)⟩, ⟨rfl, fun β => (GOk.plain (op_box (opt 0 rfl) (cells_agg _)) rfl)⟩, ⟨rfl, fun β => (GOk.plain (op_assign (opc (bc _))) rfl)⟩, trivial⟩
  clear h
  intro β a w h
  change SatL c [.slot 0 (eqVP p_0), .slot 4 (lpVP (β 0) 0), .slot 5 (lpVP (β 1) 0), .res (Log_e p_0 L_0), .res (lb (β 0) 23 [bytesCk 32 a_1]), .res (lb (β 1) 53 [one (intVP .u32 a_2.f_Home), bytesCk 32 a_2.f_Old, bytesCk 32 a_2.f_New, one (intVP .i64 a_2.f_Sig.f_Index), one (slVP (dC 32) a_2.f_Sig.f_Parts), one (slVP (dC 32) a_2.f_Sig.f_Others), one (slVP (dC 32) a_2.f_Sig.f_Path)])] a w at h
  generalize β 0 = p1 at h
  generalize β 1 = p2 at h
  clear β
  show Code.wp Tryd.prog _ _ a w
  refine wp_seq ?_
  obtain ⟨r3, hr3, hF⟩ := bind_some hF
  obtain ⟨r4, hr4, hF⟩ := bind_some hF
  refine region_do (n := 20) [.slot 7 100000 100000 (fun _ _ => (eqVP p_0)),
      .slot 8 100000 100000 (fun _ _ => (aggVP [bytesCk 32 a_1])),
      .slot 9 100000 100000 (fun _ _ => (eqVP p_0)),
      .slot 10 100000 100000 (fun _ _ => (lpVP p2 0)),
      .slot 11 100000 100000 (fun _ _ => (intVP .u32 a_2.f_Home)),
      .slot 12 100000 100000 (fun _ _ => (lpVP p2 1)),
      .slot 13 100000 100000 (fun _ _ => (aggVP [bytesCk 32 a_2.f_Old])),
      .slot 14 100000 100000 (fun _ _ => (lpVP p2 33)),
      .slot 15 100000 100000 (fun _ _ => (aggVP [bytesCk 32 a_2.f_New])),
      .slot 16 100000 100000 (fun _ _ => (aggVP [bytesCk 32 r3.1])),
      .res 100000 100000 (fun _ _ => (Log_e p_0 r3.2)),
      .slot 17 100000 100000 (fun _ _ => (lpVP p2 65)),
      .slot 18 100000 100000 (fun _ _ => (aggVP [one (intVP .i64 a_2.f_Sig.f_Index), one (slVP (dC 32) a_2.f_Sig.f_Parts), one (slVP (dC 32) a_2.f_Sig.f_Others), one (slVP (dC 32) a_2.f_Sig.f_Path)])),
      .slot 19 100000 100000 (fun _ _ => (boolVP r4.1)),
      .res 100000 100000 (fun _ _ => (Log_e p_0 r4.2)),
      .slot 6 100000 100000 (fun _ _ => (boolVP r4.1))] [0, 1, 2, 3, 4, 5, 6, 7, 8, 9, 9, 10, 11, 12, 12, 13] [⟨[0], [], [6], [], some 7⟩, ⟨[1, 4], [], [7], [], some 8⟩, ⟨[0], [], [8], [], some 9⟩, ⟨[2], [], [9], [], some 10⟩, ⟨[9, 5], [], [10], [3], some 11⟩, ⟨[2], [], [11], [], some 12⟩, ⟨[11, 5], [], [12], [5], some 13⟩, ⟨[2], [], [13], [], some 14⟩, ⟨[13, 5], [], [14], [7], some 15⟩, ⟨[8, 10, 12, 14], [3], [15, 16], [2, 3, 4, 5, 6, 7, 8], some 16⟩, ⟨[2], [], [17], [], some 17⟩, ⟨[17, 5], [], [18], [10], some 18⟩, ⟨[6, 7, 15, 18], [16], [19, 20], [0, 1, 2, 3, 4, 5, 6, 7, 8, 9, 10, 11], some 19⟩, ⟨[19], [], [21], [0, 1, 2, 3, 4, 5, 6, 7, 8, 9, 10, 11, 12], some 6⟩] [21, 20] mixed hn hG h (by kernel_rfl) ?_ ?_
  · exact ⟨⟨rfl, fun β => (GOk.plain (op_move (opt 0 rfl)) rfl)⟩, ⟨rfl, fun β => (GOk.plain (op_load_lb [] [bytesCk 32 a_1] [] 1 Tryd.isAgg23 Tryd.sizeOf23 (opt 0 rfl) rfl rfl rfl) rfl)⟩, ⟨rfl, fun β => (GOk.plain (op_move (opt 0 rfl)) rfl)⟩, ⟨rfl, fun β => (GOk.plain (op_fieldAddr_lbm (p := p2) (n := 1) 0 0 Tryd.underlying53 rfl Tryd.sizeOf51 (by decide) (opt 0 rfl) rfl) rfl)⟩, ⟨rfl, fun β => (GOk.plain (op_load_lb1 [] [bytesCk 32 a_2.f_Old, bytesCk 32 a_2.f_New, one (intVP .i64 a_2.f_Sig.f_Index), one (slVP (dC 32) a_2.f_Sig.f_Parts), one (slVP (dC 32) a_2.f_Sig.f_Others), one (slVP (dC 32) a_2.f_Sig.f_Path)] 1 Tryd.isAgg51 (opt 0 rfl) rfl rfl) rfl)⟩, ⟨rfl, fun β => (GOk.plain (op_fieldAddr_lbm (p := p2) (n := 32) 0 1 Tryd.underlying53 rfl Tryd.sizeOf23 (by decide) (opt 0 rfl) rfl) rfl)⟩, ⟨rfl, fun β => (GOk.plain (op_load_lb [one (intVP .u32 a_2.f_Home)] [bytesCk 32 a_2.f_Old] [bytesCk 32 a_2.f_New, one (intVP .i64 a_2.f_Sig.f_Index), one (slVP (dC 32) a_2.f_Sig.f_Parts), one (slVP (dC 32) a_2.f_Sig.f_Others), one (slVP (dC 32) a_2.f_Sig.f_Path)] 1 Tryd.isAgg23 Tryd.sizeOf23 (opt 0 rfl) rfl rfl rfl) rfl)⟩, ⟨rfl, fun β => (GOk.plain (op_fieldAddr_lbm (p := p2) (n := 32) 0 33 Tryd.underlying53 rfl Tryd.sizeOf23 (by decide) (opt 0 rfl) rfl) rfl)⟩, ⟨rfl, fun β => (GOk.plain (op_load_lb [one (intVP .u32 a_2.f_Home), bytesCk 32 a_2.f_Old] [bytesCk 32 a_2.f_New] [one (intVP .i64 a_2.f_Sig.f_Index), one (slVP (dC 32) a_2.f_Sig.f_Parts), one (slVP (dC 32) a_2.f_Sig.f_Others), one (slVP (dC 32) a_2.f_Sig.f_Path)] 1 Tryd.isAgg23 Tryd.sizeOf23 (opt 0 rfl) rfl rfl rfl) rfl)⟩, ⟨rfl, fun β => (GOk.plain (op_call Tryd.call30 (update_Claim_ok hr3) ⟨(opt 0 rfl), (opt 1 rfl), (opt 2 rfl), (opt 3 rfl), trivial⟩) rfl)⟩, ⟨rfl, fun β => (GOk.plain (op_fieldAddr_lbm (p := p2) (n := 4) 0 65 Tryd.underlying53 rfl Tryd.sizeOf31 (by decide) (opt 0 rfl) rfl) rfl)⟩, ⟨rfl, fun β => (GOk.plain (op_load_lb [one (intVP .u32 a_2.f_Home), bytesCk 32 a_2.f_Old, bytesCk 32 a_2.f_New] [one (intVP .i64 a_2.f_Sig.f_Index), one (slVP (dC 32) a_2.f_Sig.f_Parts), one (slVP (dC 32) a_2.f_Sig.f_Others), one (slVP (dC 32) a_2.f_Sig.f_Path)] [] 1 Tryd.isAgg31 Tryd.sizeOf31 (opt 0 rfl) rfl rfl rfl) rfl)⟩, ⟨rfl, fun β => (GOk.plain (op_call Tryd.call17 (keys_Verify_ok hr4) ⟨(opt 0 rfl), (opt 1 rfl), (opt 2 rfl), (opt 3 rfl), trivial⟩) rfl)⟩, ⟨rfl, fun β => (GOk.plain (op_assign (opt 0 rfl)) rfl)⟩, trivial⟩
  clear h
  intro β a w h
  change SatL c [.slot 6 (boolVP r4.1), .res (Log_e p_0 r4.2)] a w at h
  clear β
  show Code.wp Tryd.prog _ _ a w
  refine wp_ret ?_
  obtain rfl := Option.some.inj hF
  exact ⟨.inl rfl, ret1 h Tryd.results27 (r_tmp 0 rfl) [1] [(Log_e p_0 r4.2)] rfl rfl rfl⟩

def law10_awake.j1 (x9 : Bool) (x10 : Option O_Log) : Option Bool := some x9
def law10_awake : Option Bool := ((keys_New none ([u8of 1] ++ List.replicate (32 - 1) 0)).bind fun r1 => ((update_Sign r1.2 r1.1 1 ([u8of 2] ++ List.replicate (32 - 1) 0) ([u8of 3] ++ List.replicate (32 - 1) 0)).bind fun r3 => (if (decide (r3.2.2.1 = (0 : Int))) = true then ((keys_Signer_Root r1.1 r3.2.2.2).bind fun r5 => ((update_Right r5.2 r5.1 r3.2.1).bind fun r6 => (if r6.1 = true then ((keys_Signer_Root r1.1 r6.2).bind fun r7 => ((update_Right r7.2 r7.1 (S_api_Update.mk (0 : Int) (List.replicate 32 0) (List.replicate 32 0) (S_api_Sig.mk (0 : Int) [] [] []))).bind fun r8 => law10_awake.j1 (!r8.1) r8.2)) else law10_awake.j1 false r6.2))) else law10_awake.j1 false r3.2.2.2)))
theorem law10_awake_ok {r : Bool} (hF : law10_awake = some r) : CallOk Tryd.prog KG 25 [] [] (fun _ => []) (boolVP r) := by
  refine CallOk.intro 30 Tryd.func25 rfl Tryd.ntmps25 (Nat.le_of_ble_eq_true rfl) ?_
  intro c a w hG hn h
  unfold law10_awake at hF
  change SatL c [] a w at h
  refine wp_seq ?_
  refine region_do (n := 30) [.slot 0 100000 100000 (fun _ _ => (boolVP false))] [0] [⟨[], [], [0], [], some 0⟩] [] mixed hn hG h (by kernel_rfl) ?_ ?_
  · exact ⟨⟨rfl, fun β => (GOk.plain (op_assign (opc (bc _))) rfl)⟩, trivial⟩
  clear h
  intro β a w h
  change SatL c [] a w at h
  clear β
  show Code.wp Tryd.prog _ _ a w
  refine wp_seq ?_
  replace h := h.snoc Log_nil
  replace h := h.sub [0] (by rfl)
  change SatL c [.res (Log_e (.pointer none) none)] a w at h
  obtain ⟨r1, hr1, hF⟩ := bind_some hF
  refine region_do (n := 30) [.slot 5 100000 100000 (fun _ _ => (aggVP [bytesCk 32 ([u8of 1] ++ List.replicate (32 - 1) 0)])),
      .slot 6 100000 100000 (fun _ _ => (aggVP [bytesCk 32 r1.1.f_Seed, one (intVP .i64 r1.1.f_Next), one (slVP (dC 32) r1.1.f_Leaves)])),
      .res 100000 100000 (fun _ _ => (Log_e (.pointer none) r1.2)),
      .slot 1 2 100000 (fun v1_ _ => (lpVP v1_ 0)),
      .res 2 100000 (fun v1_ _ => (lb (v1_) 27 [bytesCk 32 ((S_keys_Signer.mk (List.replicate 32 0) (0 : Int) []).f_Seed), one (intVP .i64 ((S_keys_Signer.mk (List.replicate 32 0) (0 : Int) []).f_Next)), one (slVP (dC 32) ((S_keys_Signer.mk (List.replicate 32 0) (0 : Int) []).f_Leaves))])),
      .res 2 100000 (fun v1_ _ => (lb (v1_) 27 [bytesCk 32 r1.1.f_Seed, one (intVP .i64 r1.1.f_Next), one (slVP (dC 32) r1.1.f_Leaves)]))] [0, 1, 1, 2, 2, 3] [⟨[], [], [1], [], some 5⟩, ⟨[1], [0], [2, 3], [0], some 6⟩, ⟨[], [], [4, 5], [0, 1], some 1⟩, ⟨[4, 2], [5], [6], [0, 1, 2], none⟩] [4, 3, 6] mixed hn hG h (by kernel_rfl) ?_ ?_
  · exact ⟨⟨rfl, fun β => (GOk.plain (op_buildB (xs := [.const (.int .u8 1)]) (ys := [u8of 1]) rfl bu23 ⟨⟨_, (opc (ic (by decide))), (cells_u8 _)⟩, trivial⟩ (by decide) rfl) rfl)⟩, ⟨rfl, fun β => (GOk.plain (op_call Tryd.call12 (keys_New_ok hr1) ⟨(opc (ec _)), (opt 0 rfl), trivial⟩) rfl)⟩, ⟨rfl, fun β => (GOk.plain (op_alloc Tryd.zeroValue27 z27) rfl)⟩, ⟨rfl, fun β => (GOk.plain (op_store_lb [] [bytesCk 32 ((S_keys_Signer.mk (List.replicate 32 0) (0 : Int) []).f_Seed), one (intVP .i64 ((S_keys_Signer.mk (List.replicate 32 0) (0 : Int) []).f_Next)), one (slVP (dC 32) ((S_keys_Signer.mk (List.replicate 32 0) (0 : Int) []).f_Leaves))] [] [bytesCk 32 r1.1.f_Seed, one (intVP .i64 r1.1.f_Next), one (slVP (dC 32) r1.1.f_Leaves)] Tryd.sizeOf27 (opt 0 rfl) (opt 1 rfl) (cells_agg _) rfl rfl rfl) rfl)⟩, trivial⟩
  clear h
  intro β a w h
  change SatL c [.slot 1 (lpVP (β 2) 0), .res (Log_e (.pointer none) r1.2), .res (lb (β 2) 27 [bytesCk 32 r1.1.f_Seed, one (intVP .i64 r1.1.f_Next), one (slVP (dC 32) r1.1.f_Leaves)])] a w at h
  generalize β 2 = p2 at h
  clear β
  show Code.wp Tryd.prog _ _ a w
  refine wp_seq ?_
  obtain ⟨r3, hr3, hF⟩ := bind_some hF
  refine region_do (n := 30) [.slot 8 100000 100000 (fun _ _ => (aggVP [bytesCk 32 r1.1.f_Seed, one (intVP .i64 r1.1.f_Next), one (slVP (dC 32) r1.1.f_Leaves)])),
      .slot 9 100000 100000 (fun _ _ => (aggVP [bytesCk 32 ([u8of 2] ++ List.replicate (32 - 1) 0)])),
      .slot 10 100000 100000 (fun _ _ => (aggVP [bytesCk 32 ([u8of 3] ++ List.replicate (32 - 1) 0)])),
      .slot 11 100000 100000 (fun _ _ => (tupVP [(aggVP [bytesCk 32 r3.1.f_Seed, one (intVP .i64 r3.1.f_Next), one (slVP (dC 32) r3.1.f_Leaves)]), (aggVP [one (intVP .u32 r3.2.1.f_Home), bytesCk 32 r3.2.1.f_Old, bytesCk 32 r3.2.1.f_New, one (intVP .i64 r3.2.1.f_Sig.f_Index), one (slVP (dC 32) r3.2.1.f_Sig.f_Parts), one (slVP (dC 32) r3.2.1.f_Sig.f_Others), one (slVP (dC 32) r3.2.1.f_Sig.f_Path)]), (intVP .i64 r3.2.2.1)])),
      .res 100000 100000 (fun _ _ => (Log_e (.pointer none) r3.2.2.2)),
      .slot 7 100000 100000 (fun _ _ => (tupVP [(aggVP [bytesCk 32 r3.1.f_Seed, one (intVP .i64 r3.1.f_Next), one (slVP (dC 32) r3.1.f_Leaves)]), (aggVP [one (intVP .u32 r3.2.1.f_Home), bytesCk 32 r3.2.1.f_Old, bytesCk 32 r3.2.1.f_New, one (intVP .i64 r3.2.1.f_Sig.f_Index), one (slVP (dC 32) r3.2.1.f_Sig.f_Parts), one (slVP (dC 32) r3.2.1.f_Sig.f_Others), one (slVP (dC 32) r3.2.1.f_Sig.f_Path)]), (intVP .i64 r3.2.2.1)])),
      .slot 12 100000 100000 (fun _ _ => (aggVP [bytesCk 32 r3.1.f_Seed, one (intVP .i64 r3.1.f_Next), one (slVP (dC 32) r3.1.f_Leaves)])),
      .slot 13 100000 100000 (fun _ _ => (aggVP [one (intVP .u32 r3.2.1.f_Home), bytesCk 32 r3.2.1.f_Old, bytesCk 32 r3.2.1.f_New, one (intVP .i64 r3.2.1.f_Sig.f_Index), one (slVP (dC 32) r3.2.1.f_Sig.f_Parts), one (slVP (dC 32) r3.2.1.f_Sig.f_Others), one (slVP (dC 32) r3.2.1.f_Sig.f_Path)])),
      .slot 14 100000 100000 (fun _ _ => (intVP .i64 r3.2.2.1)),
      .slot 2 8 100000 (fun v1_ _ => (lpVP v1_ 0)),
      .res 8 100000 (fun v1_ _ => (lb (v1_) 27 [bytesCk 32 ((S_keys_Signer.mk (List.replicate 32 0) (0 : Int) []).f_Seed), one (intVP .i64 ((S_keys_Signer.mk (List.replicate 32 0) (0 : Int) []).f_Next)), one (slVP (dC 32) ((S_keys_Signer.mk (List.replicate 32 0) (0 : Int) []).f_Leaves))])),
      .slot 3 9 100000 (fun v1_ _ => (lpVP v1_ 0)),
      .res 9 100000 (fun v1_ _ => (lb (v1_) 53 [one (intVP .u32 ((S_api_Update.mk (0 : Int) (List.replicate 32 0) (List.replicate 32 0) (S_api_Sig.mk (0 : Int) [] [] [])).f_Home)), bytesCk 32 ((S_api_Update.mk (0 : Int) (List.replicate 32 0) (List.replicate 32 0) (S_api_Sig.mk (0 : Int) [] [] [])).f_Old), bytesCk 32 ((S_api_Update.mk (0 : Int) (List.replicate 32 0) (List.replicate 32 0) (S_api_Sig.mk (0 : Int) [] [] [])).f_New), one (intVP .i64 (((S_api_Update.mk (0 : Int) (List.replicate 32 0) (List.replicate 32 0) (S_api_Sig.mk (0 : Int) [] [] [])).f_Sig).f_Index)), one (slVP (dC 32) (((S_api_Update.mk (0 : Int) (List.replicate 32 0) (List.replicate 32 0) (S_api_Sig.mk (0 : Int) [] [] [])).f_Sig).f_Parts)), one (slVP (dC 32) (((S_api_Update.mk (0 : Int) (List.replicate 32 0) (List.replicate 32 0) (S_api_Sig.mk (0 : Int) [] [] [])).f_Sig).f_Others)), one (slVP (dC 32) (((S_api_Update.mk (0 : Int) (List.replicate 32 0) (List.replicate 32 0) (S_api_Sig.mk (0 : Int) [] [] [])).f_Sig).f_Path))])),
      .res 8 100000 (fun v1_ _ => (lb (v1_) 27 [bytesCk 32 r3.1.f_Seed, one (intVP .i64 r3.1.f_Next), one (slVP (dC 32) r3.1.f_Leaves)])),
      .res 9 100000 (fun v1_ _ => (lb (v1_) 53 [one (intVP .u32 r3.2.1.f_Home), bytesCk 32 r3.2.1.f_Old, bytesCk 32 r3.2.1.f_New, one (intVP .i64 r3.2.1.f_Sig.f_Index), one (slVP (dC 32) r3.2.1.f_Sig.f_Parts), one (slVP (dC 32) r3.2.1.f_Sig.f_Others), one (slVP (dC 32) r3.2.1.f_Sig.f_Path)])),
      .slot 4 100000 100000 (fun _ _ => (intVP .i64 r3.2.2.1))] [0, 1, 2, 3, 3, 4, 5, 6, 7, 8, 8, 9, 9, 10, 11, 12] [⟨[0, 2], [], [3], [], some 8⟩, ⟨[], [], [4], [0], some 9⟩, ⟨[], [], [5], [0, 1], some 10⟩, ⟨[3, 4, 5], [1], [6, 7], [0, 1, 2], some 11⟩, ⟨[6], [], [8], [0, 1, 2, 3], some 7⟩, ⟨[8], [], [9], [0, 1, 2, 3, 4], some 12⟩, ⟨[8], [], [10], [0, 1, 2, 3, 4, 5], some 13⟩, ⟨[8], [], [11], [0, 1, 2, 3, 4, 5, 6], some 14⟩, ⟨[], [], [12, 13], [0, 1, 2, 3, 4, 5, 6, 7], some 2⟩, ⟨[], [], [14, 15], [0, 1, 2, 3, 4, 5, 6, 7, 8], some 3⟩, ⟨[12, 9], [13], [16], [0, 1, 2, 3, 4, 5, 6, 7, 8, 9], none⟩, ⟨[14, 10], [15], [17], [0, 1, 2, 3, 4, 5, 6, 7, 8, 9, 10], none⟩, ⟨[11], [], [18], [0, 1, 2, 3, 4, 5, 6, 7, 8, 9, 10, 11], some 4⟩] [0, 14, 18, 2, 7, 17] mixed hn hG h (by kernel_rfl) ?_ ?_
  · exact ⟨⟨rfl, fun β => (GOk.plain (op_load_lb [] [bytesCk 32 r1.1.f_Seed, one (intVP .i64 r1.1.f_Next), one (slVP (dC 32) r1.1.f_Leaves)] [] 1 Tryd.isAgg27 Tryd.sizeOf27 (opt 0 rfl) rfl rfl rfl) rfl)⟩, ⟨rfl, fun β => (GOk.plain (op_buildB (xs := [.const (.int .u8 2)]) (ys := [u8of 2]) rfl bu23 ⟨⟨_, (opc (ic (by decide))), (cells_u8 _)⟩, trivial⟩ (by decide) rfl) rfl)⟩, ⟨rfl, fun β => (GOk.plain (op_buildB (xs := [.const (.int .u8 3)]) (ys := [u8of 3]) rfl bu23 ⟨⟨_, (opc (ic (by decide))), (cells_u8 _)⟩, trivial⟩ (by decide) rfl) rfl)⟩, ⟨rfl, fun β => (GOk.plain (op_call Tryd.call26 (update_Sign_ok hr3) ⟨(opc (ec _)), (opt 0 rfl), (opc (ic (by decide))), (opt 1 rfl), (opt 2 rfl), trivial⟩) rfl)⟩, ⟨rfl, fun β => (GOk.plain (op_move (opt 0 rfl)) rfl)⟩, ⟨rfl, fun β => (GOk.plain (op_extract (opt 0 rfl) rfl) rfl)⟩, ⟨rfl, fun β => (GOk.plain (op_extract (opt 0 rfl) rfl) rfl)⟩, ⟨rfl, fun β => (GOk.plain (op_extract (opt 0 rfl) rfl) rfl)⟩, ⟨rfl, fun β => (GOk.plain (op_alloc Tryd.zeroValue27 z27) rfl)⟩, ⟨rfl, fun β => (GOk.plain (op_alloc Tryd.zeroValue53 z53) rfl)⟩, ⟨rfl, fun β => (GOk.plain (op_store_lb [] [bytesCk 32 ((S_keys_Signer.mk (List.replicate 32 0) (0 : Int) []).f_Seed), one (intVP .i64 ((S_keys_Signer.mk (List.replicate 32 0) (0 : Int) []).f_Next)), one (slVP (dC 32) ((S_keys_Signer.mk (List.replicate 32 0) (0 : Int) []).f_Leaves))] [] [bytesCk 32 r3.1.f_Seed, one (intVP .i64 r3.1.f_Next), one (slVP (dC 32) r3.1.f_Leaves)] Tryd.sizeOf27 (opt 0 rfl) (opt 1 rfl) (cells_agg _) rfl rfl rfl) rfl)⟩, ⟨rfl, fun β => (GOk.plain (op_store_lb [] [one (intVP .u32 ((S_api_Update.mk (0 : Int) (List.replicate 32 0) (List.replicate 32 0) (S_api_Sig.mk (0 : Int) [] [] [])).f_Home)), bytesCk 32 ((S_api_Update.mk (0 : Int) (List.replicate 32 0) (List.replicate 32 0) (S_api_Sig.mk (0 : Int) [] [] [])).f_Old), bytesCk 32 ((S_api_Update.mk (0 : Int) (List.replicate 32 0) (List.replicate 32 0) (S_api_Sig.mk (0 : Int) [] [] [])).f_New), one (intVP .i64 (((S_api_Update.mk (0 : Int) (List.replicate 32 0) (List.replicate 32 0) (S_api_Sig.mk (0 : Int) [] [] [])).f_Sig).f_Index)), one (slVP (dC 32) (((S_api_Update.mk (0 : Int) (List.replicate 32 0) (List.replicate 32 0) (S_api_Sig.mk (0 : Int) [] [] [])).f_Sig).f_Parts)), one (slVP (dC 32) (((S_api_Update.mk (0 : Int) (List.replicate 32 0) (List.replicate 32 0) (S_api_Sig.mk (0 : Int) [] [] [])).f_Sig).f_Others)), one (slVP (dC 32) (((S_api_Update.mk (0 : Int) (List.replicate 32 0) (List.replicate 32 0) (S_api_Sig.mk (0 : Int) [] [] [])).f_Sig).f_Path))] [] [one (intVP .u32 r3.2.1.f_Home), bytesCk 32 r3.2.1.f_Old, bytesCk 32 r3.2.1.f_New, one (intVP .i64 r3.2.1.f_Sig.f_Index), one (slVP (dC 32) r3.2.1.f_Sig.f_Parts), one (slVP (dC 32) r3.2.1.f_Sig.f_Others), one (slVP (dC 32) r3.2.1.f_Sig.f_Path)] Tryd.sizeOf53 (opt 0 rfl) (opt 1 rfl) (cells_agg _) rfl rfl rfl) rfl)⟩, ⟨rfl, fun β => (GOk.plain (op_assign (opt 0 rfl)) rfl)⟩, trivial⟩
  clear h
  intro β a w h
  change SatL c [.slot 1 (lpVP p2 0), .slot 3 (lpVP (β 9) 0), .slot 4 (intVP .i64 r3.2.2.1), .res (lb p2 27 [bytesCk 32 r1.1.f_Seed, one (intVP .i64 r1.1.f_Next), one (slVP (dC 32) r1.1.f_Leaves)]), .res (Log_e (.pointer none) r3.2.2.2), .res (lb (β 9) 53 [one (intVP .u32 r3.2.1.f_Home), bytesCk 32 r3.2.1.f_Old, bytesCk 32 r3.2.1.f_New, one (intVP .i64 r3.2.1.f_Sig.f_Index), one (slVP (dC 32) r3.2.1.f_Sig.f_Parts), one (slVP (dC 32) r3.2.1.f_Sig.f_Others), one (slVP (dC 32) r3.2.1.f_Sig.f_Path)])] a w at h
  generalize β 9 = p4 at h
  clear β
  show Code.wp Tryd.prog _ _ a w
  refine wp_seq ?_
  refine wp_cut (fun a w => ∃ (x9 : Bool), ∃ (x10 : Option O_Log), law10_awake.j1 x9 x10 = some r ∧ SatL c [.slot 0 (boolVP x9), .res (Log_e (.pointer none) x10)] a w) ?_ ?_
  · rcases Bool.eq_false_or_eq_true (decide (r3.2.2.1 = (0 : Int))) with hb11 | hb11
    · replace hF := tt_of hb11 hF
      obtain ⟨r5, hr5, hF⟩ := bind_some hF
      obtain ⟨r6, hr6, hF⟩ := bind_some hF
      rcases Bool.eq_false_or_eq_true r6.1 with hb12 | hb12
      · replace hF := tt_of hb12 hF
        obtain ⟨r7, hr7, hF⟩ := bind_some hF
        obtain ⟨r8, hr8, hF⟩ := bind_some hF
        refine region_do (n := 30) [.slot 15 100000 100000 (fun _ _ => (intVP .i64 r3.2.2.1)),
      .slot 16 100000 100000 (fun _ _ => (boolVP (decide (r3.2.2.1 = (0 : Int))))),
      .slot 17 100000 100000 (fun _ _ => (boolVP (decide (r3.2.2.1 = (0 : Int))))),
      .slot 18 100000 100000 (fun _ _ => (aggVP [bytesCk 32 r1.1.f_Seed, one (intVP .i64 r1.1.f_Next), one (slVP (dC 32) r1.1.f_Leaves)])),
      .slot 19 100000 100000 (fun _ _ => (aggVP [bytesCk 32 r5.1])),
      .res 100000 100000 (fun _ _ => (Log_e (.pointer none) r5.2)),
      .slot 20 100000 100000 (fun _ _ => (aggVP [one (intVP .u32 r3.2.1.f_Home), bytesCk 32 r3.2.1.f_Old, bytesCk 32 r3.2.1.f_New, one (intVP .i64 r3.2.1.f_Sig.f_Index), one (slVP (dC 32) r3.2.1.f_Sig.f_Parts), one (slVP (dC 32) r3.2.1.f_Sig.f_Others), one (slVP (dC 32) r3.2.1.f_Sig.f_Path)])),
      .slot 21 100000 100000 (fun _ _ => (boolVP r6.1)),
      .res 100000 100000 (fun _ _ => (Log_e (.pointer none) r6.2)),
      .slot 22 100000 100000 (fun _ _ => (boolVP r6.1)),
      .slot 23 100000 100000 (fun _ _ => (boolVP r6.1)),
      .slot 24 100000 100000 (fun _ _ => (aggVP [bytesCk 32 r1.1.f_Seed, one (intVP .i64 r1.1.f_Next), one (slVP (dC 32) r1.1.f_Leaves)])),
      .slot 25 100000 100000 (fun _ _ => (aggVP [bytesCk 32 r7.1])),
      .res 100000 100000 (fun _ _ => (Log_e (.pointer none) r7.2)),
      .slot 26 100000 100000 (fun _ _ => (aggVP [one (intVP .u32 (0 : Int)), bytesCk 32 (List.replicate 32 0), bytesCk 32 (List.replicate 32 0), one (intVP .i64 ((S_api_Sig.mk (0 : Int) [] [] []).f_Index)), one (slVP (dC 32) ((S_api_Sig.mk (0 : Int) [] [] []).f_Parts)), one (slVP (dC 32) ((S_api_Sig.mk (0 : Int) [] [] []).f_Others)), one (slVP (dC 32) ((S_api_Sig.mk (0 : Int) [] [] []).f_Path))])),
      .slot 27 100000 100000 (fun _ _ => (boolVP r8.1)),
      .res 100000 100000 (fun _ _ => (Log_e (.pointer none) r8.2)),
      .slot 28 100000 100000 (fun _ _ => (boolVP (!r8.1))),
      .slot 29 100000 100000 (fun _ _ => (boolVP (!r8.1))),
      .slot 0 100000 100000 (fun _ _ => (boolVP (!r8.1)))] [0, 1, 2, 3, 4, 4, 5, 6, 6, 7, 8, 9, 10, 10, 11, 12, 12, 13, 14, 15] [⟨[2], [], [6], [], some 15⟩, ⟨[6], [], [7], [0], some 16⟩, ⟨[7], [], [8], [0, 1], some 17⟩, ⟨[8, 0, 3], [], [9], [0, 1, 2], some 18⟩, ⟨[8, 9], [4], [10, 11], [0, 1, 2, 3], some 19⟩, ⟨[8, 1, 5], [], [12], [0, 1, 2], some 20⟩, ⟨[8, 10, 12], [11], [13, 14], [0, 1, 2, 3, 4, 5], some 21⟩, ⟨[8, 13], [], [15], [0, 1, 2, 3, 4, 5, 6], some 22⟩, ⟨[15], [], [16], [0, 1, 2, 3, 4, 5, 6, 7], some 23⟩, ⟨[16, 0, 3], [], [17], [0, 1, 2, 3, 4, 5, 6, 7, 8], some 24⟩, ⟨[16, 17], [14], [18, 19], [0, 1, 2, 3, 4, 5, 6, 7, 8, 9], some 25⟩, ⟨[16], [], [20], [0, 1, 2, 3, 4, 5, 6, 7, 8], some 26⟩, ⟨[16, 18, 20], [19], [21, 22], [0, 1, 2, 3, 4, 5, 6, 7, 8, 9, 10, 11], some 27⟩, ⟨[16, 21], [], [23], [0, 1, 2, 3, 4, 5, 6, 7, 8, 9, 10, 11, 12], some 28⟩, ⟨[16, 23], [], [24], [0, 1, 2, 3, 4, 5, 6, 7, 8, 9, 10, 11, 12, 13], some 29⟩, ⟨[24], [], [25], [0, 1, 2, 3, 4, 5, 6, 7, 8, 9, 10, 11, 12, 13, 14], some 0⟩] [25, 22] mixed hn hG h (by kernel_rfl) ?_ ?_
        · exact ⟨⟨rfl, fun β => (GOk.plain (op_move (opt 0 rfl)) rfl)⟩, ⟨rfl, fun β => (GOk.plain (op_bin bin_eql (opt 0 rfl) (opc (ic (by decide)))) rfl)⟩, ⟨rfl, fun β => (GOk.plain (op_move (opt 0 rfl)) rfl)⟩, ⟨rfl, fun β => (GOk.on_eq hb11 rfl rfl rfl (op_load_lb [] [bytesCk 32 r1.1.f_Seed, one (intVP .i64 r1.1.f_Next), one (slVP (dC 32) r1.1.f_Leaves)] [] 1 Tryd.isAgg27 Tryd.sizeOf27 (opt 0 rfl) rfl rfl rfl))⟩, ⟨rfl, fun β => (GOk.on_eq hb11 rfl rfl rfl (op_call Tryd.call13 (keys_Signer_Root_ok hr5) ⟨(opt 0 rfl), (opc (ec _)), trivial⟩))⟩, ⟨rfl, fun β => (GOk.on_eq hb11 rfl rfl rfl (op_load_lb [] [one (intVP .u32 r3.2.1.f_Home), bytesCk 32 r3.2.1.f_Old, bytesCk 32 r3.2.1.f_New, one (intVP .i64 r3.2.1.f_Sig.f_Index), one (slVP (dC 32) r3.2.1.f_Sig.f_Parts), one (slVP (dC 32) r3.2.1.f_Sig.f_Others), one (slVP (dC 32) r3.2.1.f_Sig.f_Path)] [] 1 Tryd.isAgg53 Tryd.sizeOf53 (opt 0 rfl) rfl rfl rfl))⟩, ⟨rfl, fun β => (GOk.on_eq hb11 rfl rfl rfl (op_call Tryd.call27 (update_Right_ok hr6) ⟨(opc (ec _)), (opt 0 rfl), (opt 1 rfl), trivial⟩))⟩, ⟨rfl, fun β => (GOk.plain (op_pick_t hb11 (opt 0 rfl) (opt 1 rfl)) rfl)⟩, ⟨rfl, fun β => (GOk.plain (op_move (opt 0 rfl)) rfl)⟩, ⟨rfl, fun β => (GOk.on_eq hb12 rfl rfl rfl (op_load_lb [] [bytesCk 32 r1.1.f_Seed, one (intVP .i64 r1.1.f_Next), one (slVP (dC 32) r1.1.f_Leaves)] [] 1 Tryd.isAgg27 Tryd.sizeOf27 (opt 0 rfl) rfl rfl rfl))⟩, ⟨rfl, fun β => (GOk.on_eq hb12 rfl rfl rfl (op_call Tryd.call13 (keys_Signer_Root_ok hr7) ⟨(opt 0 rfl), (opc (ec _)), trivial⟩))⟩, ⟨rfl, fun β => (GOk.on_eq hb12 rfl rfl rfl (op_build [] rfl bu53 z53 rfl))⟩, ⟨rfl, fun β => (GOk.on_eq hb12 rfl rfl rfl (op_call Tryd.call27 (update_Right_ok hr8) ⟨(opc (ec _)), (opt 0 rfl), (opt 1 rfl), trivial⟩))⟩, ⟨rfl, fun β => (GOk.on_eq hb12 rfl rfl rfl (op_un (un_not _) (opt 0 rfl)))⟩, ⟨rfl, fun β => (GOk.plain (op_pick_t hb12 (opt 0 rfl) (opt 1 rfl)) rfl)⟩, ⟨rfl, fun β => (GOk.plain (op_assign (opt 0 rfl)) rfl)⟩, trivial⟩
        clear h
        intro β a w h
        change SatL c [.slot 0 (boolVP (!r8.1)), .res (Log_e (.pointer none) r8.2)] a w at h
        clear β
        exact ⟨!r8.1, r8.2, hF, h.sub [0, 1] (by rfl)⟩
      · replace hF := ff_of hb12 hF
        refine region_do (n := 30) [.slot 15 100000 100000 (fun _ _ => (intVP .i64 r3.2.2.1)),
      .slot 16 100000 100000 (fun _ _ => (boolVP (decide (r3.2.2.1 = (0 : Int))))),
      .slot 17 100000 100000 (fun _ _ => (boolVP (decide (r3.2.2.1 = (0 : Int))))),
      .slot 18 100000 100000 (fun _ _ => (aggVP [bytesCk 32 r1.1.f_Seed, one (intVP .i64 r1.1.f_Next), one (slVP (dC 32) r1.1.f_Leaves)])),
      .slot 19 100000 100000 (fun _ _ => (aggVP [bytesCk 32 r5.1])),
      .res 100000 100000 (fun _ _ => (Log_e (.pointer none) r5.2)),
      .slot 20 100000 100000 (fun _ _ => (aggVP [one (intVP .u32 r3.2.1.f_Home), bytesCk 32 r3.2.1.f_Old, bytesCk 32 r3.2.1.f_New, one (intVP .i64 r3.2.1.f_Sig.f_Index), one (slVP (dC 32) r3.2.1.f_Sig.f_Parts), one (slVP (dC 32) r3.2.1.f_Sig.f_Others), one (slVP (dC 32) r3.2.1.f_Sig.f_Path)])),
      .slot 21 100000 100000 (fun _ _ => (boolVP r6.1)),
      .res 100000 100000 (fun _ _ => (Log_e (.pointer none) r6.2)),
      .slot 22 100000 100000 (fun _ _ => (boolVP r6.1)),
      .slot 23 100000 100000 (fun _ _ => (boolVP r6.1)),
      .slot 24 100000 100000 (fun _ _ => (eqVP undef)),
      .slot 25 100000 100000 (fun _ _ => (eqVP undef)),
      .slot 26 100000 100000 (fun _ _ => (eqVP undef)),
      .slot 27 100000 100000 (fun _ _ => (eqVP undef)),
      .slot 28 100000 100000 (fun _ _ => (eqVP undef)),
      .slot 29 100000 100000 (fun _ _ => (boolVP false)),
      .slot 0 100000 100000 (fun _ _ => (boolVP false))] [0, 1, 2, 3, 4, 4, 5, 6, 6, 7, 8, 9, 10, 11, 12, 13, 14, 15] [⟨[2], [], [6], [], some 15⟩, ⟨[6], [], [7], [0], some 16⟩, ⟨[7], [], [8], [0, 1], some 17⟩, ⟨[8, 0, 3], [], [9], [0, 1, 2], some 18⟩, ⟨[8, 9], [4], [10, 11], [0, 1, 2, 3], some 19⟩, ⟨[8, 1, 5], [], [12], [0, 1, 2], some 20⟩, ⟨[8, 10, 12], [11], [13, 14], [0, 1, 2, 3, 4, 5], some 21⟩, ⟨[8, 13], [], [15], [0, 1, 2, 3, 4, 5, 6], some 22⟩, ⟨[15], [], [16], [0, 1, 2, 3, 4, 5, 6, 7], some 23⟩, ⟨[16], [], [17], [0, 1, 2, 3, 4, 5, 6, 7, 8], some 24⟩, ⟨[16], [], [18], [0, 1, 2, 3, 4, 5, 6, 7, 8, 9], some 25⟩, ⟨[16], [], [19], [0, 1, 2, 3, 4, 5, 6, 7, 8], some 26⟩, ⟨[16], [], [20], [0, 1, 2, 3, 4, 5, 6, 7, 8, 9, 10, 11], some 27⟩, ⟨[16], [], [21], [0, 1, 2, 3, 4, 5, 6, 7, 8, 9, 10, 11, 12], some 28⟩, ⟨[16], [], [22], [0, 1, 2, 3, 4, 5, 6, 7, 8, 9, 10, 11, 12, 13], some 29⟩, ⟨[22], [], [23], [0, 1, 2, 3, 4, 5, 6, 7, 8, 9, 10, 11, 12, 13, 14], some 0⟩] [23, 14] mixed hn hG h (by kernel_rfl) ?_ ?_
        · exact ⟨⟨rfl, fun β => (GOk.plain (op_move (opt 0 rfl)) rfl)⟩, ⟨rfl, fun β => (GOk.plain (op_bin bin_eql (opt 0 rfl) (opc (ic (by decide)))) rfl)⟩, ⟨rfl, fun β => (GOk.plain (op_move (opt 0 rfl)) rfl)⟩, ⟨rfl, fun β => (GOk.on_eq hb11 rfl rfl rfl (op_load_lb [] [bytesCk 32 r1.1.f_Seed, one (intVP .i64 r1.1.f_Next), one (slVP (dC 32) r1.1.f_Leaves)] [] 1 Tryd.isAgg27 Tryd.sizeOf27 (opt 0 rfl) rfl rfl rfl))⟩, ⟨rfl, fun β => (GOk.on_eq hb11 rfl rfl rfl (op_call Tryd.call13 (keys_Signer_Root_ok hr5) ⟨(opt 0 rfl), (opc (ec _)), trivial⟩))⟩, ⟨rfl, fun β => (GOk.on_eq hb11 rfl rfl rfl (op_load_lb [] [one (intVP .u32 r3.2.1.f_Home), bytesCk 32 r3.2.1.f_Old, bytesCk 32 r3.2.1.f_New, one (intVP .i64 r3.2.1.f_Sig.f_Index), one (slVP (dC 32) r3.2.1.f_Sig.f_Parts), one (slVP (dC 32) r3.2.1.f_Sig.f_Others), one (slVP (dC 32) r3.2.1.f_Sig.f_Path)] [] 1 Tryd.isAgg53 Tryd.sizeOf53 (opt 0 rfl) rfl rfl rfl))⟩, ⟨rfl, fun β => (GOk.on_eq hb11 rfl rfl rfl (op_call Tryd.call27 (update_Right_ok hr6) ⟨(opc (ec _)), (opt 0 rfl), (opt 1 rfl), trivial⟩))⟩, ⟨rfl, fun β => (GOk.plain (op_pick_t hb11 (opt 0 rfl) (opt 1 rfl)) rfl)⟩, ⟨rfl, fun β => (GOk.plain (op_move (opt 0 rfl)) rfl)⟩, ⟨rfl, fun β => (GOk.off_v (want := true) hb12 rfl rfl rfl rfl)⟩, ⟨rfl, fun β => (GOk.off_v (want := true) hb12 rfl rfl rfl rfl)⟩, ⟨rfl, fun β => (GOk.off_v (want := true) hb12 rfl rfl rfl rfl)⟩, ⟨rfl, fun β => (GOk.off_v (want := true) hb12 rfl rfl rfl rfl)⟩, ⟨rfl, fun β => (GOk.off_v (want := true) hb12 rfl rfl rfl rfl)⟩, ⟨rfl, fun β => (GOk.plain (op_pick_f hb12 (opt 0 rfl) (opc (bc _))) rfl)⟩, ⟨rfl, fun β => (GOk.plain (op_assign (opt 0 rfl)) rfl)⟩, trivial⟩
        clear h
        intro β a w h
        change SatL c [.slot 0 (boolVP false), .res (Log_e (.pointer none) r6.2)] a w at h
        clear β
        exact ⟨false, r6.2, hF, h.sub [0, 1] (by rfl)⟩
    · replace hF := ff_of hb11 hF
      refine region_do (n := 30) [.slot 15 100000 100000 (fun _ _ => (intVP .i64 r3.2.2.1)),
      .slot 16 100000 100000 (fun _ _ => (boolVP (decide (r3.2.2.1 = (0 : Int))))),
      .slot 17 100000 100000 (fun _ _ => (boolVP (decide (r3.2.2.1 = (0 : Int))))),
      .slot 18 100000 100000 (fun _ _ => (eqVP undef)),
      .slot 19 100000 100000 (fun _ _ => (eqVP undef)),
      .slot 20 100000 100000 (fun _ _ => (eqVP undef)),
      .slot 21 100000 100000 (fun _ _ => (eqVP undef)),
      .slot 22 100000 100000 (fun _ _ => (boolVP false)),
      .slot 23 100000 100000 (fun _ _ => (boolVP false)),
      .slot 24 100000 100000 (fun _ _ => (eqVP undef)),
      .slot 25 100000 100000 (fun _ _ => (eqVP undef)),
      .slot 26 100000 100000 (fun _ _ => (eqVP undef)),
      .slot 27 100000 100000 (fun _ _ => (eqVP undef)),
      .slot 28 100000 100000 (fun _ _ => (eqVP undef)),
      .slot 29 100000 100000 (fun _ _ => (boolVP false)),
      .slot 0 100000 100000 (fun _ _ => (boolVP false))] [0, 1, 2, 3, 4, 5, 6, 7, 8, 9, 10, 11, 12, 13, 14, 15] [⟨[2], [], [6], [], some 15⟩, ⟨[6], [], [7], [0], some 16⟩, ⟨[7], [], [8], [0, 1], some 17⟩, ⟨[8], [], [9], [0, 1, 2], some 18⟩, ⟨[8], [], [10], [0, 1, 2, 3], some 19⟩, ⟨[8], [], [11], [0, 1, 2], some 20⟩, ⟨[8], [], [12], [0, 1, 2, 3, 4, 5], some 21⟩, ⟨[8], [], [13], [0, 1, 2, 3, 4, 5, 6], some 22⟩, ⟨[13], [], [14], [0, 1, 2, 3, 4, 5, 6, 7], some 23⟩, ⟨[14], [], [15], [0, 1, 2, 3, 4, 5, 6, 7, 8], some 24⟩, ⟨[14], [], [16], [0, 1, 2, 3, 4, 5, 6, 7, 8, 9], some 25⟩, ⟨[14], [], [17], [0, 1, 2, 3, 4, 5, 6, 7, 8], some 26⟩, ⟨[14], [], [18], [0, 1, 2, 3, 4, 5, 6, 7, 8, 9, 10, 11], some 27⟩, ⟨[14], [], [19], [0, 1, 2, 3, 4, 5, 6, 7, 8, 9, 10, 11, 12], some 28⟩, ⟨[14], [], [20], [0, 1, 2, 3, 4, 5, 6, 7, 8, 9, 10, 11, 12, 13], some 29⟩, ⟨[20], [], [21], [0, 1, 2, 3, 4, 5, 6, 7, 8, 9, 10, 11, 12, 13, 14], some 0⟩] [21, 4] mixed hn hG h (by kernel_rfl) ?_ ?_
      · exact ⟨⟨rfl, fun β => (GOk.plain (op_move (opt 0 rfl)) rfl)⟩, ⟨rfl, fun β => (GOk.plain (op_bin bin_eql (opt 0 rfl) (opc (ic (by decide)))) rfl)⟩, ⟨rfl, fun β => (GOk.plain (op_move (opt 0 rfl)) rfl)⟩, ⟨rfl, fun β => (GOk.off_v (want := true) hb11 rfl rfl rfl rfl)⟩, ⟨rfl, fun β => (GOk.off_v (want := true) hb11 rfl rfl rfl rfl)⟩, ⟨rfl, fun β => (GOk.off_v (want := true) hb11 rfl rfl rfl rfl)⟩, ⟨rfl, fun β => (GOk.off_v (want := true) hb11 rfl rfl rfl rfl)⟩, ⟨rfl, fun β => (GOk.plain (op_pick_f hb11 (opt 0 rfl) (opc (bc _))) rfl)⟩, ⟨rfl, fun β => (GOk.plain (op_move (opt 0 rfl)) rfl)⟩, ⟨rfl, fun β => (GOk.off_v (want := true) rfl rfl rfl rfl rfl)⟩, ⟨rfl, fun β => (GOk.off_v (want := true) rfl rfl rfl rfl rfl)⟩, ⟨rfl, fun β => (GOk.off_v (want := true) rfl rfl rfl rfl rfl)⟩, ⟨rfl, fun β => (GOk.off_v (want := true) rfl rfl rfl rfl rfl)⟩, ⟨rfl, fun β => (GOk.off_v (want := true) rfl rfl rfl rfl rfl)⟩, ⟨rfl, fun β => (GOk.plain (op_pick_f rfl (opt 0 rfl) (opc (bc _))) rfl)⟩, ⟨rfl, fun β => (GOk.plain (op_assign (opt 0 rfl)) rfl)⟩, trivial⟩
      clear h
      intro β a w h
      change SatL c [.slot 0 (boolVP false), .res (Log_e (.pointer none) r3.2.2.2)] a w at h
      clear β
      exact ⟨false, r3.2.2.2, hF, h.sub [0, 1] (by rfl)⟩
  · clear h hF
    rintro a w ⟨x9, x10, hF, h⟩
    unfold law10_awake.j1 at hF
    show Code.wp Tryd.prog _ _ a w
    refine wp_ret ?_
    obtain rfl := Option.some.inj hF
    exact ⟨.inl rfl, ret1 h Tryd.results25 (r_tmp 0 rfl) [] [] rfl rfl rfl⟩

def ref03_Big.b1 (x4 : Int) (x5 : Int) (x6 : List UInt8) : Option (Flow (List UInt8) (Int × Int × (List UInt8))) := (if (decide ((0 : Int) ≤ x5)) = true then (if (0 : Int) ≤ x5 ∧ x5 < 8 then some (.cont (IntKind.wrap .u64 (x4.tdiv 256), IntKind.wrap .i64 (x5 - 1), x6.set x5.toNat (u8of (IntKind.wrap .u8 (x4.tmod 256))))) else none) else some (.brk (x4, x5, x6)))
def ref03_Big (a_0 : Int) (a_1 : Int) : Option (List UInt8) := ((loopN (fun s : Int × Int × (List UInt8) => ref03_Big.b1 s.1 s.2.1 s.2.2) (((IntKind.wrap .i64 (a_1 - 1)) - 0 : Int).toNat + 2) (a_0, IntKind.wrap .i64 (a_1 - 1), (List.replicate 8 0))).bind fun cr => match cr with | .ret r => some r | .next (y18, y19, y20) => (if (0 : Int) ≤ 0 ∧ (0 : Int) ≤ a_1 ∧ a_1 ≤ 8 ∧ (0 : Int) < 8 then (if (a_1 : Int).toNat - (0 : Int).toNat ≤ 8 then some (y20.take ((a_1 : Int).toNat - (0 : Int).toNat)) else none) else none))
theorem ref03_Big_ok {a_0 : Int} {a_1 : Int} {r : (List UInt8)} (hF : ref03_Big a_0 a_1 = some r) : CallOk Tryd.prog KG 60 [(intVP .u64 a_0), (intVP .i64 a_1)] [] (fun _ => []) (strVP r) := by
  refine CallOk.intro 23 Tryd.func60 rfl Tryd.ntmps60 (Nat.le_of_ble_eq_true rfl) ?_
  intro c a w hG hn h
  unfold ref03_Big at hF
  change SatL c [.slot 0 (intVP .u64 a_0), .slot 1 (intVP .i64 a_1)] a w at h
  refine wp_seq ?_
  refine region_do (n := 23) [.slot 4 100000 100000 (fun _ _ => (strVP []))] [0] [⟨[], [], [2], [], some 4⟩] [0, 1] mixed hn hG h (by kernel_rfl) ?_ ?_
  · exact ⟨⟨rfl, fun β => (GOk.plain (op_assign (opc (sc _ (by decide)))) rfl)⟩, trivial⟩
  clear h
  intro β a w h
  change SatL c [.slot 0 (intVP .u64 a_0), .slot 1 (intVP .i64 a_1)] a w at h
  clear β
  show Code.wp Tryd.prog _ _ a w
  refine wp_seq ?_
  refine region_do (n := 23) [.slot 5 0 100000 (fun v1_ _ => (lpVP v1_ 0)),
      .res 0 100000 (fun v1_ _ => (lb (v1_) 135 [bytesCk 8 (List.replicate 8 0)]))] [0, 0] [⟨[], [], [2, 3], [], some 5⟩] [0, 1, 2, 3] mixed hn hG h (by kernel_rfl) ?_ ?_
  · exact ⟨⟨rfl, fun β => (GOk.plain (op_alloc Tryd.zeroValue135 z135) rfl)⟩, trivial⟩
  clear h
  intro β a w h
  change SatL c [.slot 0 (intVP .u64 a_0), .slot 1 (intVP .i64 a_1), .slot 5 (lpVP (β 0) 0), .res (lb (β 0) 135 [bytesCk 8 (List.replicate 8 0)])] a w at h
  generalize β 0 = p1 at h
  clear β
  show Code.wp Tryd.prog _ _ a w
  refine wp_seq ?_
  refine wp_seq ?_
  refine region_do (n := 23) [.slot 7 100000 100000 (fun _ _ => (intVP .i64 a_1)),
      .slot 8 100000 100000 (fun _ _ => (intVP .i64 (IntKind.wrap .i64 (a_1 - 1)))),
      .slot 6 100000 100000 (fun _ _ => (intVP .i64 (IntKind.wrap .i64 (a_1 - 1))))] [0, 1, 2] [⟨[1], [], [4], [], some 7⟩, ⟨[4], [], [5], [0], some 8⟩, ⟨[5], [], [6], [0, 1], some 6⟩] [0, 1, 2, 6, 3] mixed hn hG h (by kernel_rfl) ?_ ?_
  · exact ⟨⟨rfl, fun β => (GOk.plain (op_move (opt 0 rfl)) rfl)⟩, ⟨rfl, fun β => (GOk.plain (op_bin bin_sub (opt 0 rfl) (opc (ic (by decide)))) rfl)⟩, ⟨rfl, fun β => (GOk.plain (op_assign (opt 0 rfl)) rfl)⟩, trivial⟩
  clear h
  intro β a w h
  change SatL c [.slot 0 (intVP .u64 a_0), .slot 1 (intVP .i64 a_1), .slot 5 (lpVP p1 0), .slot 6 (intVP .i64 (IntKind.wrap .i64 (a_1 - 1))), .res (lb p1 135 [bytesCk 8 (List.replicate 8 0)])] a w at h
  clear β
  show Code.wp Tryd.prog _ _ a w
  refine wp_block ?_
  obtain ⟨cr14, hl15, hF⟩ := bind_some hF
  refine wp_mono (wp_loopN (R := (List UInt8)) (S := Int × Int × (List UInt8)) (fun s a w => SatL c [.slot 0 (intVP .u64 s.1), .slot 1 (intVP .i64 a_1), .slot 5 (lpVP p1 0), .slot 6 (intVP .i64 s.2.1), .res (lb p1 135 [bytesCk 8 s.2.2])] a w) (fun res e a w => match res with | .next s => e = .exit 0 ∧ SatL c [.slot 1 (intVP .i64 a_1), .slot 5 (lpVP p1 0), .res (lb p1 135 [bytesCk 8 s.2.2])] a w | .ret r => e = .ret ∧ RetOk Tryd.prog Tryd.f60 c (strVP r) (fun _ => []) a w) ?_ _ (a_0, IntKind.wrap .i64 (a_1 - 1), (List.replicate 8 0)) _ _ _ (h.sub [0, 1, 2, 3, 4] (by rfl)) hl15) ?_
  · clear hl15 hF h
    intro s a w o h hF
    obtain ⟨x4, x5, x6⟩ := s
    change ref03_Big.b1 x4 x5 x6 = some o at hF
    unfold ref03_Big.b1 at hF
    change SatL c [.slot 0 (intVP .u64 x4), .slot 1 (intVP .i64 a_1), .slot 5 (lpVP p1 0), .slot 6 (intVP .i64 x5), .res (lb p1 135 [bytesCk 8 x6])] a w at h
    refine wp_seq ?_
    refine wp_seq ?_
    refine region_do (n := 23) [.slot 9 100000 100000 (fun _ _ => (intVP .i64 x5)),
      .slot 10 100000 100000 (fun _ _ => (boolVP (decide ((0 : Int) ≤ x5))))] [0, 1] [⟨[3], [], [5], [], some 9⟩, ⟨[5], [], [6], [0], some 10⟩] [0, 1, 2, 3, 6, 4] mixed hn hG h (by kernel_rfl) ?_ ?_
    · exact ⟨⟨rfl, fun β => (GOk.plain (op_move (opt 0 rfl)) rfl)⟩, ⟨rfl, fun β => (GOk.plain (op_bin bin_geq (opt 0 rfl) (opc (ic (by decide)))) rfl)⟩, trivial⟩
    clear h
    intro β a w h
    change SatL c [.slot 0 (intVP .u64 x4), .slot 1 (intVP .i64 a_1), .slot 5 (lpVP p1 0), .slot 6 (intVP .i64 x5), .slot 10 (boolVP (decide ((0 : Int) ≤ x5))), .res (lb p1 135 [bytesCk 8 x6])] a w at h
    clear β
    show Code.wp Tryd.prog _ _ a w
    refine cond_L h 4 rfl (fun hb12 => ?_) (fun hb12 => ?_)
    · replace hF := tt_of hb12 hF
      replace h := h.sub [0, 1, 2, 3, 5] (by rfl)
      change SatL c [.slot 0 (intVP .u64 x4), .slot 1 (intVP .i64 a_1), .slot 5 (lpVP p1 0), .slot 6 (intVP .i64 x5), .res (lb p1 135 [bytesCk 8 x6])] a w at h
      refine wp_skip ?_
      show Code.wp Tryd.prog _ _ a w
      refine wp_seq ?_
      refine wp_block ?_
      refine wp_seq ?_
      obtain ⟨hv13, hF⟩ := ite_some hF
      refine region_do (n := 23) [.slot 13 100000 100000 (fun _ _ => (intVP .i64 x5)),
      .slot 14 100000 100000 (fun _ _ => (intVP .u64 x4)),
      .slot 15 100000 100000 (fun _ _ => (intVP .u64 (x4.tmod 256))),
      .slot 16 100000 100000 (fun _ _ => (intVP .u8 (IntKind.wrap .u8 (x4.tmod 256)))),
      .slot 17 100000 100000 (fun _ _ => (lpVP p1 (0 + x5.toNat * 1))),
      .res 100000 100000 (fun _ _ => (lb p1 135 [bytesCk 8 (x6.set x5.toNat (u8of (IntKind.wrap .u8 (x4.tmod 256))))]))] [0, 1, 2, 3, 4, 5] [⟨[3], [], [5], [], some 13⟩, ⟨[0], [], [6], [0], some 14⟩, ⟨[6], [], [7], [0, 1], some 15⟩, ⟨[7], [], [8], [0, 1, 2], some 16⟩, ⟨[2, 5], [], [9], [0, 1, 2, 3], some 17⟩, ⟨[9, 8], [4], [10], [0, 1, 2, 3, 4], none⟩] [0, 1, 2, 3, 10] mixed hn hG h (by kernel_rfl) ?_ ?_
      · exact ⟨⟨rfl, fun β => (GOk.plain (op_move (opt 0 rfl)) rfl)⟩, ⟨rfl, fun β => (GOk.plain (op_move (opt 0 rfl)) rfl)⟩, ⟨rfl, fun β => (GOk.plain (op_bin (bin_rem (by decide)) (opt 0 rfl) (opc (ic (by decide)))) rfl)⟩, ⟨rfl, fun β => (GOk.plain (op_convert_int Tryd.underlying114 Tryd.underlying5 (opt 0 rfl)) rfl)⟩, ⟨rfl, fun β => (GOk.plain (op_indexAddr_lb Tryd.underlying135 Tryd.sizeOf5 (opt 0 rfl) (opt 1 rfl) hv13) rfl)⟩, ⟨rfl, fun β => (GOk.plain (op_store_lbB (i := x5) [] [] Tryd.sizeOf5 (opt 0 rfl) (opt 1 rfl) rfl hv13) rfl)⟩, trivial⟩
      clear h
      intro β a w h
      change SatL c [.slot 0 (intVP .u64 x4), .slot 1 (intVP .i64 a_1), .slot 5 (lpVP p1 0), .slot 6 (intVP .i64 x5), .res (lb p1 135 [bytesCk 8 (x6.set x5.toNat (u8of (IntKind.wrap .u8 (x4.tmod 256))))])] a w at h
      clear β
      show Code.wp Tryd.prog _ _ a w
      refine region_do (n := 23) [.slot 18 100000 100000 (fun _ _ => (intVP .u64 x4)),
      .slot 19 100000 100000 (fun _ _ => (intVP .u64 (IntKind.wrap .u64 (x4.tdiv 256)))),
      .slot 0 100000 100000 (fun _ _ => (intVP .u64 (IntKind.wrap .u64 (x4.tdiv 256))))] [0, 1, 2] [⟨[0], [], [5], [], some 18⟩, ⟨[5], [], [6], [0], some 19⟩, ⟨[6], [0], [7], [0, 1], some 0⟩] [7, 1, 2, 3, 4] mixed hn hG h (by kernel_rfl) ?_ ?_
      · exact ⟨⟨rfl, fun β => (GOk.plain (op_move (opt 0 rfl)) rfl)⟩, ⟨rfl, fun β => (GOk.plain (op_bin (bin_quo (by decide)) (opt 0 rfl) (opc (ic (by decide)))) rfl)⟩, ⟨rfl, fun β => (GOk.drop _ (GOk.plain (op_assign (opt 0 rfl)) rfl))⟩, trivial⟩
      clear h
      intro β a w h
      change SatL c [.slot 0 (intVP .u64 (IntKind.wrap .u64 (x4.tdiv 256))), .slot 1 (intVP .i64 a_1), .slot 5 (lpVP p1 0), .slot 6 (intVP .i64 x5), .res (lb p1 135 [bytesCk 8 (x6.set x5.toNat (u8of (IntKind.wrap .u8 (x4.tmod 256))))])] a w at h
      clear β
      show Code.wp Tryd.prog _ _ a w
      refine region_do (n := 23) [.slot 11 100000 100000 (fun _ _ => (intVP .i64 x5)),
      .slot 12 100000 100000 (fun _ _ => (intVP .i64 (IntKind.wrap .i64 (x5 - 1)))),
      .slot 6 100000 100000 (fun _ _ => (intVP .i64 (IntKind.wrap .i64 (x5 - 1))))] [0, 1, 2] [⟨[3], [], [5], [], some 11⟩, ⟨[5], [], [6], [0], some 12⟩, ⟨[6], [3], [7], [0, 1], some 6⟩] [0, 1, 2, 7, 4] mixed hn hG h (by kernel_rfl) ?_ ?_
      · exact ⟨⟨rfl, fun β => (GOk.plain (op_move (opt 0 rfl)) rfl)⟩, ⟨rfl, fun β => (GOk.plain (op_bin bin_sub (opt 0 rfl) (opc (ic (by decide)))) rfl)⟩, ⟨rfl, fun β => (GOk.drop _ (GOk.plain (op_assign (opt 0 rfl)) rfl))⟩, trivial⟩
      clear h
      intro β a w h
      change SatL c [.slot 0 (intVP .u64 (IntKind.wrap .u64 (x4.tdiv 256))), .slot 1 (intVP .i64 a_1), .slot 5 (lpVP p1 0), .slot 6 (intVP .i64 (IntKind.wrap .i64 (x5 - 1))), .res (lb p1 135 [bytesCk 8 (x6.set x5.toNat (u8of (IntKind.wrap .u8 (x4.tmod 256))))])] a w at h
      clear β
      obtain rfl := Option.some.inj hF
      exact ⟨rfl, h.sub [0, 1, 2, 3, 4] (by rfl)⟩
    · replace hF := ff_of hb12 hF
      replace h := h.sub [0, 1, 2, 3, 5] (by rfl)
      change SatL c [.slot 0 (intVP .u64 x4), .slot 1 (intVP .i64 a_1), .slot 5 (lpVP p1 0), .slot 6 (intVP .i64 x5), .res (lb p1 135 [bytesCk 8 x6])] a w at h
      refine wp_exit ?_
      obtain rfl := Option.some.inj hF
      exact ⟨exit_ne _, rfl, h.sub [1, 2, 4] (by rfl)⟩
  · clear hl15
    intro e a w hq
    cases cr14 with
    | ret r16 =>
      obtain ⟨rfl, hq⟩ := hq
      obtain rfl := Option.some.inj hF
      exact ⟨.inl rfl, hq⟩
    | next s17 =>
      obtain ⟨y18, y19, y20⟩ := s17
      obtain ⟨rfl, h⟩ := hq
      change SatL c [.slot 1 (intVP .i64 a_1), .slot 5 (lpVP p1 0), .res (lb p1 135 [bytesCk 8 y20])] a w at h
      refine inBlock_at ?_
      show Code.wp Tryd.prog _ _ a w
      refine wp_seq ?_
      obtain ⟨hv21, hF⟩ := ite_some hF
      obtain ⟨hv22, hF⟩ := ite_some hF
      refine region_do (n := 23) [.slot 20 100000 100000 (fun _ _ => (intVP .i64 a_1)),
      .slot 21 100000 100000 (fun _ _ => (lslVP p1 (0 + (0 : Int).toNat * 1) ((a_1 : Int).toNat - (0 : Int).toNat) (8 - (0 : Int).toNat))),
      .slot 22 100000 100000 (fun _ _ => (strVP (y20.take ((a_1 : Int).toNat - (0 : Int).toNat)))),
      .slot 4 100000 100000 (fun _ _ => (strVP (y20.take ((a_1 : Int).toNat - (0 : Int).toNat))))] [0, 1, 2, 3] [⟨[0], [], [3], [], some 20⟩, ⟨[1, 3], [], [4], [0], some 21⟩, ⟨[4, 2], [], [5], [0, 1], some 22⟩, ⟨[5], [], [6], [0, 1, 2], some 4⟩] [6] mixed hn hG h (by kernel_rfl) ?_ ?_
      · exact ⟨⟨rfl, fun β => (GOk.plain (op_move (opt 0 rfl)) rfl)⟩, ⟨rfl, fun β => (GOk.plain (op_slice_lb (a := 0) (b := a_1) Tryd.underlying135 Tryd.sizeOf5 (opt 0 rfl) rfl ⟨_, (opt 1 rfl)⟩ hv21) rfl)⟩, ⟨rfl, fun β => (GOk.plain (op_str_lsl [] [] 1 Tryd.underlying129 Tryd.underlying5 Tryd.underlying9 (opt 0 rfl) rfl rfl hv22 (by decide)) rfl)⟩, ⟨rfl, fun β => (GOk.plain (op_assign (opt 0 rfl)) rfl)⟩, trivial⟩
      clear h
      intro β a w h
      change SatL c [.slot 4 (strVP (y20.take ((a_1 : Int).toNat - (0 : Int).toNat)))] a w at h
      clear β
      show Code.wp Tryd.prog _ _ a w
      refine wp_ret ?_
      obtain rfl := Option.some.inj hF
      exact ⟨.inl rfl, ret1 h Tryd.results60 (r_tmp 0 rfl) [] [] rfl rfl rfl⟩

def ref03_Text (a_0 : List UInt8) : Option (List UInt8) := ((ref03_Big (IntKind.wrap .u64 (a_0.length : Int)) 4).bind fun r1 => (if r1.length + a_0.length ≤ mxl then some (r1 ++ a_0) else none))
theorem ref03_Text_ok {a_0 : List UInt8} {r : (List UInt8)} (hF : ref03_Text a_0 = some r) : CallOk Tryd.prog KG 89 [(strVP a_0)] [] (fun _ => []) (strVP r) := by
  refine CallOk.intro 9 Tryd.func89 rfl Tryd.ntmps89 (Nat.le_of_ble_eq_true rfl) ?_
  intro c a w hG hn h
  unfold ref03_Text at hF
  change SatL c [.slot 0 (strVP a_0)] a w at h
  refine wp_seq ?_
  refine region_do (n := 9) [.slot 2 100000 100000 (fun _ _ => (strVP []))] [0] [⟨[], [], [1], [], some 2⟩] [0] mixed hn hG h (by kernel_rfl) ?_ ?_
  · exact ⟨⟨rfl, fun β => (GOk.plain (op_assign (opc (sc _ (by decide)))) rfl)⟩, trivial⟩
  clear h
  intro β a w h
  change SatL c [.slot 0 (strVP a_0)] a w at h
  clear β
  show Code.wp Tryd.prog _ _ a w
  refine wp_seq ?_
  obtain ⟨r1, hr1, hF⟩ := bind_some hF
  obtain ⟨hv2, hF⟩ := ite_some hF
  refine region_do (n := 9) [.slot 3 100000 100000 (fun _ _ => (strVP a_0)),
      .slot 4 100000 100000 (fun _ _ => (intVP .i64 (a_0.length : Int))),
      .slot 5 100000 100000 (fun _ _ => (intVP .u64 (IntKind.wrap .u64 (a_0.length : Int)))),
      .slot 6 100000 100000 (fun _ _ => (strVP r1)),
      .slot 7 100000 100000 (fun _ _ => (strVP a_0)),
      .slot 8 100000 100000 (fun _ _ => (strVP (r1 ++ a_0))),
      .slot 2 100000 100000 (fun _ _ => (strVP (r1 ++ a_0)))] [0, 1, 2, 3, 4, 5, 6] [⟨[0], [], [1], [], some 3⟩, ⟨[1], [], [2], [0], some 4⟩, ⟨[2], [], [3], [0, 1], some 5⟩, ⟨[3], [], [4], [0, 1, 2], some 6⟩, ⟨[0], [], [5], [0, 1, 2, 3], some 7⟩, ⟨[4, 5], [], [6], [0, 1, 2, 3, 4], some 8⟩, ⟨[6], [], [7], [0, 1, 2, 3, 4, 5], some 2⟩] [7] mixed hn hG h (by kernel_rfl) ?_ ?_
  · exact ⟨⟨rfl, fun β => (GOk.plain (op_move (opt 0 rfl)) rfl)⟩, ⟨rfl, fun β => (GOk.plain (op_len_str Tryd.underlying9 (opt 0 rfl)) rfl)⟩, ⟨rfl, fun β => (GOk.plain (op_convert_int Tryd.underlying3 Tryd.underlying114 (opt 0 rfl)) rfl)⟩, ⟨rfl, fun β => (GOk.plain (op_call Tryd.call60 (ref03_Big_ok hr1) ⟨(opt 0 rfl), (opc (ic (by decide))), trivial⟩) rfl)⟩, ⟨rfl, fun β => (GOk.plain (op_move (opt 0 rfl)) rfl)⟩, ⟨rfl, fun β => (GOk.plain (op_bin (bin_sadd hv2) (opt 0 rfl) (opt 1 rfl)) rfl)⟩, ⟨rfl, fun β => (GOk.plain (op_assign (opt 0 rfl)) rfl)⟩, trivial⟩
  clear h
  intro β a w h
  change SatL c [.slot 2 (strVP (r1 ++ a_0))] a w at h
  clear β
  show Code.wp Tryd.prog _ _ a w
  refine wp_ret ?_
  obtain rfl := Option.some.inj hF
  exact ⟨.inl rfl, ret1 h Tryd.results89 (r_tmp 0 rfl) [] [] rfl rfl rfl⟩

def ref04_Input.b1 (a_1 : List (List UInt8)) (x5 : List UInt8) (x6 : Int) : Option (Flow (List UInt8) ((List UInt8) × Int)) := (if (decide (x6 < (a_1.length : Int))) = true then (if (0 : Int) ≤ x6 ∧ x6 < a_1.length then ((ref03_Text (a_1.getD x6.toNat default)).bind fun r15 => (if x5.length + r15.length ≤ mxl then some (.cont (x5 ++ r15, IntKind.wrap .i64 (x6 + 1))) else none)) else none) else some (.brk (x5, x6)))
def ref04_Input (a_0 : Int) (a_1 : List (List UInt8)) : Option (List UInt8) := ((loopN (fun s : (List UInt8) × Int => ref04_Input.b1 a_1 s.1 s.2) (((a_1.length : Int) - 0 : Int).toNat + 2) ([u8of a_0], 0)).bind fun cr => match cr with | .ret r => some r | .next (y21, y22) => some y21)
theorem ref04_Input_ok {a_0 : Int} {a_1 : List (List UInt8)} {r : (List UInt8)} (hF : ref04_Input a_0 a_1 = some r) : CallOk Tryd.prog KG 77 [(intVP .u8 a_0), (slVP strC a_1)] [] (fun _ => []) (strVP r) := by
  refine CallOk.intro 23 Tryd.func77 rfl Tryd.ntmps77 (Nat.le_of_ble_eq_true rfl) ?_
  intro c a w hG hn h
  unfold ref04_Input at hF
  change SatL c [.slot 0 (intVP .u8 a_0), .slot 1 (slVP strC a_1)] a w at h
  refine wp_seq ?_
  refine region_do (n := 23) [.slot 4 100000 100000 (fun _ _ => (strVP []))] [0] [⟨[], [], [2], [], some 4⟩] [0, 1] mixed hn hG h (by kernel_rfl) ?_ ?_
  · exact ⟨⟨rfl, fun β => (GOk.plain (op_assign (opc (sc _ (by decide)))) rfl)⟩, trivial⟩
  clear h
  intro β a w h
  change SatL c [.slot 0 (intVP .u8 a_0), .slot 1 (slVP strC a_1)] a w at h
  clear β
  show Code.wp Tryd.prog _ _ a w
  refine wp_seq ?_
  refine region_do (n := 23) [.slot 8 100000 100000 (fun _ _ => (intVP .u8 a_0)),
      .slot 9 100000 100000 (fun _ _ => (slVP bC [u8of a_0])),
      .slot 10 100000 100000 (fun _ _ => (strVP [u8of a_0])),
      .slot 5 100000 100000 (fun _ _ => (strVP [u8of a_0]))] [0, 1, 2, 3] [⟨[0], [], [2], [], some 8⟩, ⟨[2], [], [3], [0], some 9⟩, ⟨[3], [], [4], [0, 1], some 10⟩, ⟨[4], [], [5], [0, 1, 2], some 5⟩] [1, 5] mixed hn hG h (by kernel_rfl) ?_ ?_
  · exact ⟨⟨rfl, fun β => (GOk.plain (op_move (opt 0 rfl)) rfl)⟩, ⟨rfl, fun β => (GOk.plain (op_lit (xs := [.tmp 8]) (ys := [u8of a_0]) _ rfl Tryd.underlying129 Tryd.sizeOf5 Tryd.zeroValue5 rfl rfl (by decide) (by decide) ⟨⟨_, (opt 0 rfl), (cells_u8 _)⟩, trivial⟩ lens_bC) rfl)⟩, ⟨rfl, fun β => (GOk.plain (op_conv_sl_str Tryd.underlying129 Tryd.underlying5 Tryd.underlying9 (opt 0 rfl)) rfl)⟩, ⟨rfl, fun β => (GOk.plain (op_assign (opt 0 rfl)) rfl)⟩, trivial⟩
  clear h
  intro β a w h
  change SatL c [.slot 1 (slVP strC a_1), .slot 5 (strVP [u8of a_0])] a w at h
  clear β
  show Code.wp Tryd.prog _ _ a w
  refine wp_seq ?_
  refine wp_seq ?_
  refine region_do (n := 23) [.slot 11 100000 100000 (fun _ _ => (slVP strC a_1)),
      .slot 12 100000 100000 (fun _ _ => (intVP .i64 (a_1.length : Int))),
      .slot 13 100000 100000 (fun _ _ => (intVP .i64 0))] [0, 1, 2] [⟨[0], [], [2], [], some 11⟩, ⟨[2], [], [3], [0], some 12⟩, ⟨[], [], [4], [0, 1], some 13⟩] [1, 2, 3, 4] mixed hn hG h (by kernel_rfl) ?_ ?_
  · exact ⟨⟨rfl, fun β => (GOk.plain (op_move (opt 0 rfl)) rfl)⟩, ⟨rfl, fun β => (GOk.plain (op_len_sl Tryd.underlying101 (opt 0 rfl)) rfl)⟩, ⟨rfl, fun β => (GOk.plain (op_move (opc (ic (by decide)))) rfl)⟩, trivial⟩
  clear h
  intro β a w h
  change SatL c [.slot 5 (strVP [u8of a_0]), .slot 11 (slVP strC a_1), .slot 12 (intVP .i64 (a_1.length : Int)), .slot 13 (intVP .i64 0)] a w at h
  clear β
  show Code.wp Tryd.prog _ _ a w
  refine wp_block ?_
  obtain ⟨cr17, hl18, hF⟩ := bind_some hF
  refine wp_mono (wp_loopN (R := (List UInt8)) (S := (List UInt8) × Int) (fun s a w => SatL c [.slot 5 (strVP s.1), .slot 11 (slVP strC a_1), .slot 12 (intVP .i64 (a_1.length : Int)), .slot 13 (intVP .i64 s.2)] a w) (fun res e a w => match res with | .next s => e = .exit 0 ∧ SatL c [.slot 5 (strVP s.1)] a w | .ret r => e = .ret ∧ RetOk Tryd.prog Tryd.f77 c (strVP r) (fun _ => []) a w) ?_ _ ([u8of a_0], 0) _ _ _ (h.sub [0, 1, 2, 3] (by rfl)) hl18) ?_
  · clear hl18 hF h
    intro s a w o h hF
    obtain ⟨x5, x6⟩ := s
    change ref04_Input.b1 a_1 x5 x6 = some o at hF
    unfold ref04_Input.b1 at hF
    change SatL c [.slot 5 (strVP x5), .slot 11 (slVP strC a_1), .slot 12 (intVP .i64 (a_1.length : Int)), .slot 13 (intVP .i64 x6)] a w at h
    refine wp_seq ?_
    refine region_do (n := 23) [.slot 14 100000 100000 (fun _ _ => (boolVP (decide (x6 < (a_1.length : Int)))))] [0] [⟨[3, 2], [], [4], [], some 14⟩] [0, 1, 2, 3, 4] mixed hn hG h (by kernel_rfl) ?_ ?_
    · exact ⟨⟨rfl, fun β => (GOk.plain (op_bin bin_lss (opt 0 rfl) (opt 1 rfl)) rfl)⟩, trivial⟩
    clear h
    intro β a w h
    change SatL c [.slot 5 (strVP x5), .slot 11 (slVP strC a_1), .slot 12 (intVP .i64 (a_1.length : Int)), .slot 13 (intVP .i64 x6), .slot 14 (boolVP (decide (x6 < (a_1.length : Int))))] a w at h
    clear β
    show Code.wp Tryd.prog _ _ a w
    refine wp_seq ?_
    refine cond_L h 4 rfl (fun hb13 => ?_) (fun hb13 => ?_)
    · replace hF := tt_of hb13 hF
      replace h := h.sub [0, 1, 2, 3] (by rfl)
      change SatL c [.slot 5 (strVP x5), .slot 11 (slVP strC a_1), .slot 12 (intVP .i64 (a_1.length : Int)), .slot 13 (intVP .i64 x6)] a w at h
      refine wp_skip ?_
      show Code.wp Tryd.prog _ _ a w
      refine wp_seq ?_
      refine wp_block ?_
      refine wp_seq ?_
      obtain ⟨hv14, hF⟩ := ite_some hF
      refine region_do (n := 23) [.slot 15 100000 100000 (fun _ _ => (ppVP [one (strVP (a_1.getD x6.toNat default))])),
      .slot 16 100000 100000 (fun _ _ => (strVP (a_1.getD x6.toNat default))),
      .slot 7 100000 100000 (fun _ _ => (strVP (a_1.getD x6.toNat default)))] [0, 1, 2] [⟨[1, 3], [], [4], [], some 15⟩, ⟨[4], [], [5], [0], some 16⟩, ⟨[5], [], [6], [0, 1], some 7⟩] [0, 6, 1, 2, 3] mixed hn hG h (by kernel_rfl) ?_ ?_
      · exact ⟨⟨rfl, fun β => (GOk.plain (op_indexAddr_sl Tryd.underlying101 Tryd.sizeOf9 lens_strC (opt 0 rfl) (opt 1 rfl) hv14) rfl)⟩, ⟨rfl, fun β => (GOk.plain (op_load_pp1 [] Tryd.isAgg9 (opt 0 rfl)) rfl)⟩, ⟨rfl, fun β => (GOk.plain (op_assign (opt 0 rfl)) rfl)⟩, trivial⟩
      clear h
      intro β a w h
      change SatL c [.slot 5 (strVP x5), .slot 7 (strVP (a_1.getD x6.toNat default)), .slot 11 (slVP strC a_1), .slot 12 (intVP .i64 (a_1.length : Int)), .slot 13 (intVP .i64 x6)] a w at h
      clear β
      show Code.wp Tryd.prog _ _ a w
      obtain ⟨r15, hr15, hF⟩ := bind_some hF
      obtain ⟨hv16, hF⟩ := ite_some hF
      refine region_do (n := 23) [.slot 17 100000 100000 (fun _ _ => (strVP x5)),
      .slot 18 100000 100000 (fun _ _ => (strVP (a_1.getD x6.toNat default))),
      .slot 19 100000 100000 (fun _ _ => (strVP r15)),
      .slot 20 100000 100000 (fun _ _ => (strVP (x5 ++ r15))),
      .slot 5 100000 100000 (fun _ _ => (strVP (x5 ++ r15)))] [0, 1, 2, 3, 4] [⟨[0], [], [5], [], some 17⟩, ⟨[1], [], [6], [0], some 18⟩, ⟨[6], [], [7], [0, 1], some 19⟩, ⟨[5, 7], [], [8], [0, 1, 2], some 20⟩, ⟨[8], [0], [9], [0, 1, 2, 3], some 5⟩] [9, 2, 3, 4] mixed hn hG h (by kernel_rfl) ?_ ?_
      · exact ⟨⟨rfl, fun β => (GOk.plain (op_move (opt 0 rfl)) rfl)⟩, ⟨rfl, fun β => (GOk.plain (op_move (opt 0 rfl)) rfl)⟩, ⟨rfl, fun β => (GOk.plain (op_call Tryd.call89 (ref03_Text_ok hr15) ⟨(opt 0 rfl), trivial⟩) rfl)⟩, ⟨rfl, fun β => (GOk.plain (op_bin (bin_sadd hv16) (opt 0 rfl) (opt 1 rfl)) rfl)⟩, ⟨rfl, fun β => (GOk.drop _ (GOk.plain (op_assign (opt 0 rfl)) rfl))⟩, trivial⟩
      clear h
      intro β a w h
      change SatL c [.slot 5 (strVP (x5 ++ r15)), .slot 11 (slVP strC a_1), .slot 12 (intVP .i64 (a_1.length : Int)), .slot 13 (intVP .i64 x6)] a w at h
      clear β
      show Code.wp Tryd.prog _ _ a w
      refine region_do (n := 23) [.slot 21 100000 100000 (fun _ _ => (intVP .i64 (IntKind.wrap .i64 (x6 + 1)))),
      .slot 13 100000 100000 (fun _ _ => (intVP .i64 (IntKind.wrap .i64 (x6 + 1))))] [0, 1] [⟨[3], [], [4], [], some 21⟩, ⟨[4], [3], [5], [0], some 13⟩] [0, 1, 2, 5] mixed hn hG h (by kernel_rfl) ?_ ?_
      · exact ⟨⟨rfl, fun β => (GOk.plain (op_bin bin_add (opt 0 rfl) (opc (ic (by decide)))) rfl)⟩, ⟨rfl, fun β => (GOk.drop _ (GOk.plain (op_move (opt 0 rfl)) rfl))⟩, trivial⟩
      clear h
      intro β a w h
      change SatL c [.slot 5 (strVP (x5 ++ r15)), .slot 11 (slVP strC a_1), .slot 12 (intVP .i64 (a_1.length : Int)), .slot 13 (intVP .i64 (IntKind.wrap .i64 (x6 + 1)))] a w at h
      clear β
      obtain rfl := Option.some.inj hF
      exact ⟨rfl, h.sub [0, 1, 2, 3] (by rfl)⟩
    · replace hF := ff_of hb13 hF
      replace h := h.sub [0, 1, 2, 3] (by rfl)
      change SatL c [.slot 5 (strVP x5), .slot 11 (slVP strC a_1), .slot 12 (intVP .i64 (a_1.length : Int)), .slot 13 (intVP .i64 x6)] a w at h
      refine wp_exit ?_
      obtain rfl := Option.some.inj hF
      exact ⟨exit_ne _, rfl, h.sub [0] (by rfl)⟩
  · clear hl18
    intro e a w hq
    cases cr17 with
    | ret r19 =>
      obtain ⟨rfl, hq⟩ := hq
      obtain rfl := Option.some.inj hF
      exact ⟨.inl rfl, hq⟩
    | next s20 =>
      obtain ⟨y21, y22⟩ := s20
      obtain ⟨rfl, h⟩ := hq
      change SatL c [.slot 5 (strVP y21)] a w at h
      refine inBlock_at ?_
      show Code.wp Tryd.prog _ _ a w
      refine wp_seq ?_
      refine region_do (n := 23) [.slot 22 100000 100000 (fun _ _ => (strVP y21)),
      .slot 4 100000 100000 (fun _ _ => (strVP y21))] [0, 1] [⟨[0], [], [1], [], some 22⟩, ⟨[1], [], [2], [0], some 4⟩] [2] mixed hn hG h (by kernel_rfl) ?_ ?_
      · exact ⟨⟨rfl, fun β => (GOk.plain (op_move (opt 0 rfl)) rfl)⟩, ⟨rfl, fun β => (GOk.plain (op_assign (opt 0 rfl)) rfl)⟩, trivial⟩
      clear h
      intro β a w h
      change SatL c [.slot 4 (strVP y21)] a w at h
      clear β
      show Code.wp Tryd.prog _ _ a w
      refine wp_ret ?_
      obtain rfl := Option.some.inj hF
      exact ⟨.inl rfl, ret1 h Tryd.results77 (r_tmp 0 rfl) [] [] rfl rfl rfl⟩

def ref01_constants : Option (List Int) := some ([1116352408, 1899447441, 3049323471, 3921009573, 961987163, 1508970993, 2453635748, 2870763221, 3624381080, 310598401, 607225278, 1426881987, 1925078388, 2162078206, 2614888103, 3248222580, 3835390401, 4022224774, 264347078, 604807628, 770255983, 1249150122, 1555081692, 1996064986, 2554220882, 2821834349, 2952996808, 3210313671, 3336571891, 3584528711, 113926993, 338241895, 666307205, 773529912, 1294757372, 1396182291, 1695183700, 1986661051, 2177026350, 2456956037, 2730485921, 2820302411, 3259730800, 3345764771, 3516065817, 3600352804, 4094571909, 275423344, 430227734, 506948616, 659060556, 883997877, 958139571, 1322822218, 1537002063, 1747873779, 1955562222, 2024104815, 2227730452, 2361852424, 2428436474, 2756734187, 3204031479, 3329325298] ++ List.replicate (64 - 64) 0)
theorem ref01_constants_ok {r : (List Int)} (hF : ref01_constants = some r) : CallOk Tryd.prog KG 105 [] [] (fun _ => []) (aggVP [intsCk .u32 64 r]) := by
  refine CallOk.intro 2 Tryd.func105 rfl Tryd.ntmps105 (Nat.le_of_ble_eq_true rfl) ?_
  intro c a w hG hn h
  unfold ref01_constants at hF
  change SatL c [] a w at h
  refine wp_seq ?_
  refine region_do (n := 2) [.slot 0 0 100000 (fun v1_ _ => (lpVP v1_ 0)),
      .res 0 100000 (fun v1_ _ => (lb (v1_) 170 [intsCk .u32 64 (List.replicate 64 0)]))] [0, 0] [⟨[], [], [0, 1], [], some 0⟩] [0, 1] mixed hn hG h (by kernel_rfl) ?_ ?_
  · exact ⟨⟨rfl, fun β => (GOk.plain (op_alloc Tryd.zeroValue170 z170) rfl)⟩, trivial⟩
  clear h
  intro β a w h
  change SatL c [.slot 0 (lpVP (β 0) 0), .res (lb (β 0) 170 [intsCk .u32 64 (List.replicate 64 0)])] a w at h
  generalize β 0 = p1 at h
  clear β
  show Code.wp Tryd.prog _ _ a w
  refine wp_seq ?_
  refine region_do (n := 2) [.slot 1 100000 100000 (fun _ _ => (aggVP [intsCk .u32 64 ([1116352408, 1899447441, 3049323471, 3921009573, 961987163, 1508970993, 2453635748, 2870763221, 3624381080, 310598401, 607225278, 1426881987, 1925078388, 2162078206, 2614888103, 3248222580, 3835390401, 4022224774, 264347078, 604807628, 770255983, 1249150122, 1555081692, 1996064986, 2554220882, 2821834349, 2952996808, 3210313671, 3336571891, 3584528711, 113926993, 338241895, 666307205, 773529912, 1294757372, 1396182291, 1695183700, 1986661051, 2177026350, 2456956037, 2730485921, 2820302411, 3259730800, 3345764771, 3516065817, 3600352804, 4094571909, 275423344, 430227734, 506948616, 659060556, 883997877, 958139571, 1322822218, 1537002063, 1747873779, 1955562222, 2024104815, 2227730452, 2361852424, 2428436474, 2756734187, 3204031479, 3329325298] ++ List.replicate (64 - 64) 0)])),
      .res 100000 100000 (fun _ _ => (lb p1 170 [intsCk .u32 64 ([1116352408, 1899447441, 3049323471, 3921009573, 961987163, 1508970993, 2453635748, 2870763221, 3624381080, 310598401, 607225278, 1426881987, 1925078388, 2162078206, 2614888103, 3248222580, 3835390401, 4022224774, 264347078, 604807628, 770255983, 1249150122, 1555081692, 1996064986, 2554220882, 2821834349, 2952996808, 3210313671, 3336571891, 3584528711, 113926993, 338241895, 666307205, 773529912, 1294757372, 1396182291, 1695183700, 1986661051, 2177026350, 2456956037, 2730485921, 2820302411, 3259730800, 3345764771, 3516065817, 3600352804, 4094571909, 275423344, 430227734, 506948616, 659060556, 883997877, 958139571, 1322822218, 1537002063, 1747873779, 1955562222, 2024104815, 2227730452, 2361852424, 2428436474, 2756734187, 3204031479, 3329325298] ++ List.replicate (64 - 64) 0)]))] [0, 1] [⟨[], [], [2], [], some 1⟩, ⟨[0, 2], [1], [3], [0], none⟩] [0, 3] mixed hn hG h (by kernel_rfl) ?_ ?_
  · exact ⟨⟨rfl, fun β => (GOk.plain (op_buildI (xs := [.const (.int .u32 1116352408), .const (.int .u32 1899447441), .const (.int .u32 3049323471), .const (.int .u32 3921009573), .const (.int .u32 961987163), .const (.int .u32 1508970993), .const (.int .u32 2453635748), .const (.int .u32 2870763221), .const (.int .u32 3624381080), .const (.int .u32 310598401), .const (.int .u32 607225278), .const (.int .u32 1426881987), .const (.int .u32 1925078388), .const (.int .u32 2162078206), .const (.int .u32 2614888103), .const (.int .u32 3248222580), .const (.int .u32 3835390401), .const (.int .u32 4022224774), .const (.int .u32 264347078), .const (.int .u32 604807628), .const (.int .u32 770255983), .const (.int .u32 1249150122), .const (.int .u32 1555081692), .const (.int .u32 1996064986), .const (.int .u32 2554220882), .const (.int .u32 2821834349), .const (.int .u32 2952996808), .const (.int .u32 3210313671), .const (.int .u32 3336571891), .const (.int .u32 3584528711), .const (.int .u32 113926993), .const (.int .u32 338241895), .const (.int .u32 666307205), .const (.int .u32 773529912), .const (.int .u32 1294757372), .const (.int .u32 1396182291), .const (.int .u32 1695183700), .const (.int .u32 1986661051), .const (.int .u32 2177026350), .const (.int .u32 2456956037), .const (.int .u32 2730485921), .const (.int .u32 2820302411), .const (.int .u32 3259730800), .const (.int .u32 3345764771), .const (.int .u32 3516065817), .const (.int .u32 3600352804), .const (.int .u32 4094571909), .const (.int .u32 275423344), .const (.int .u32 430227734), .const (.int .u32 506948616), .const (.int .u32 659060556), .const (.int .u32 883997877), .const (.int .u32 958139571), .const (.int .u32 1322822218), .const (.int .u32 1537002063), .const (.int .u32 1747873779), .const (.int .u32 1955562222), .const (.int .u32 2024104815), .const (.int .u32 2227730452), .const (.int .u32 2361852424), .const (.int .u32 2428436474), .const (.int .u32 2756734187), .const (.int .u32 3204031479), .const (.int .u32 3329325298)]) (ys := [1116352408, 1899447441, 3049323471, 3921009573, 961987163, 1508970993, 2453635748, 2870763221, 3624381080, 310598401, 607225278, 1426881987, 1925078388, 2162078206, 2614888103, 3248222580, 3835390401, 4022224774, 264347078, 604807628, 770255983, 1249150122, 1555081692, 1996064986, 2554220882, 2821834349, 2952996808, 3210313671, 3336571891, 3584528711, 113926993, 338241895, 666307205, 773529912, 1294757372, 1396182291, 1695183700, 1986661051, 2177026350, 2456956037, 2730485921, 2820302411, 3259730800, 3345764771, 3516065817, 3600352804, 4094571909, 275423344, 430227734, 506948616, 659060556, 883997877, 958139571, 1322822218, 1537002063, 1747873779, 1955562222, 2024104815, 2227730452, 2361852424, 2428436474, 2756734187, 3204031479, 3329325298]) rfl bu170 ⟨⟨_, (opc (ic (by decide))), (cells_one (one_int _ _))⟩, ⟨_, (opc (ic (by decide))), (cells_one (one_int _ _))⟩, ⟨_, (opc (ic (by decide))), (cells_one (one_int _ _))⟩, ⟨_, (opc (ic (by decide))), (cells_one (one_int _ _))⟩, ⟨_, (opc (ic (by decide))), (cells_one (one_int _ _))⟩, ⟨_, (opc (ic (by decide))), (cells_one (one_int _ _))⟩, ⟨_, (opc (ic (by decide))), (cells_one (one_int _ _))⟩, ⟨_, (opc (ic (by decide))), (cells_one (one_int _ _))⟩, ⟨_, (opc (ic (by decide))), (cells_one (one_int _ _))⟩, ⟨_, (opc (ic (by decide))), (cells_one (one_int _ _))⟩, ⟨_, (opc (ic (by decide))), (cells_one (one_int _ _))⟩, ⟨_, (opc (ic (by decide))), (cells_one (one_int _ _))⟩, ⟨_, (opc (ic (by decide))), (cells_one (one_int _ _))⟩, ⟨_, (opc (ic (by decide))), (cells_one (one_int _ _))⟩, ⟨_, (opc (ic (by decide))), (cells_one (one_int _ _))⟩, ⟨_, (opc (ic (by decide))), (cells_one (one_int _ _))⟩, ⟨_, (opc (ic (by decide))), (cells_one (one_int _ _))⟩, ⟨_, (opc (ic (by decide))), (cells_one (one_int _ _))⟩, ⟨_, (opc (ic (by decide))), (cells_one (one_int _ _))⟩, ⟨_, (opc (ic (by decide))), (cells_one (one_int _ _))⟩, ⟨_, (opc (ic (by decide))), (cells_one (one_int _ _))⟩, ⟨_, (opc (ic (by decide))), (cells_one (one_int _ _))⟩, ⟨_, (opc (ic (by decide))), (cells_one (one_int _ _))⟩, ⟨_, (opc (ic (by decide))), (cells_one (one_int _ _))⟩, ⟨_, (opc (ic (by decide))), (cells_one (one_int _ _))⟩, ⟨_, (opc (ic (by decide))), (cells_one (one_int _ _))⟩, ⟨_, (opc (ic (by decide))), (cells_one (one_int _ _))⟩, ⟨_, (opc (ic (by decide))), (cells_one (one_int _ _))⟩, ⟨_, (opc (ic (by decide))), (cells_one (one_int _ _))⟩, ⟨_, (opc (ic (by decide))), (cells_one (one_int _ _))⟩, ⟨_, (opc (ic (by decide))), (cells_one (one_int _ _))⟩, ⟨_, (opc (ic (by decide))), (cells_one (one_int _ _))⟩, ⟨_, (opc (ic (by decide))), (cells_one (one_int _ _))⟩, ⟨_, (opc (ic (by decide))), (cells_one (one_int _ _))⟩, ⟨_, (opc (ic (by decide))), (cells_one (one_int _ _))⟩, ⟨_, (opc (ic (by decide))), (cells_one (one_int _ _))⟩, ⟨_, (opc (ic (by decide))), (cells_one (one_int _ _))⟩, ⟨_, (opc (ic (by decide))), (cells_one (one_int _ _))⟩, ⟨_, (opc (ic (by decide))), (cells_one (one_int _ _))⟩, ⟨_, (opc (ic (by decide))), (cells_one (one_int _ _))⟩, ⟨_, (opc (ic (by decide))), (cells_one (one_int _ _))⟩, ⟨_, (opc (ic (by decide))), (cells_one (one_int _ _))⟩, ⟨_, (opc (ic (by decide))), (cells_one (one_int _ _))⟩, ⟨_, (opc (ic (by decide))), (cells_one (one_int _ _))⟩, ⟨_, (opc (ic (by decide))), (cells_one (one_int _ _))⟩, ⟨_, (opc (ic (by decide))), (cells_one (one_int _ _))⟩, ⟨_, (opc (ic (by decide))), (cells_one (one_int _ _))⟩, ⟨_, (opc (ic (by decide))), (cells_one (one_int _ _))⟩, ⟨_, (opc (ic (by decide))), (cells_one (one_int _ _))⟩, ⟨_, (opc (ic (by decide))), (cells_one (one_int _ _))⟩, ⟨_, (opc (ic (by decide))), (cells_one (one_int _ _))⟩, ⟨_, (opc (ic (by decide))), (cells_one (one_int _ _))⟩, ⟨_, (opc (ic (by decide))), (cells_one (one_int _ _))⟩, ⟨_, (opc (ic (by decide))), (cells_one (one_int _ _))⟩, ⟨_, (opc (ic (by decide))), (cells_one (one_int _ _))⟩, ⟨_, (opc (ic (by decide))), (cells_one (one_int _ _))⟩, ⟨_, (opc (ic (by decide))), (cells_one (one_int _ _))⟩, ⟨_, (opc (ic (by decide))), (cells_one (one_int _ _))⟩, ⟨_, (opc (ic (by decide))), (cells_one (one_int _ _))⟩, ⟨_, (opc (ic (by decide))), (cells_one (one_int _ _))⟩, ⟨_, (opc (ic (by decide))), (cells_one (one_int _ _))⟩, ⟨_, (opc (ic (by decide))), (cells_one (one_int _ _))⟩, ⟨_, (opc (ic (by decide))), (cells_one (one_int _ _))⟩, ⟨_, (opc (ic (by decide))), (cells_one (one_int _ _))⟩, trivial⟩ (by decide) rfl) rfl)⟩, ⟨rfl, fun β => (GOk.plain (op_store_lb [] [intsCk .u32 64 (List.replicate 64 0)] [] [intsCk .u32 64 ([1116352408, 1899447441, 3049323471, 3921009573, 961987163, 1508970993, 2453635748, 2870763221, 3624381080, 310598401, 607225278, 1426881987, 1925078388, 2162078206, 2614888103, 3248222580, 3835390401, 4022224774, 264347078, 604807628, 770255983, 1249150122, 1555081692, 1996064986, 2554220882, 2821834349, 2952996808, 3210313671, 3336571891, 3584528711, 113926993, 338241895, 666307205, 773529912, 1294757372, 1396182291, 1695183700, 1986661051, 2177026350, 2456956037, 2730485921, 2820302411, 3259730800, 3345764771, 3516065817, 3600352804, 4094571909, 275423344, 430227734, 506948616, 659060556, 883997877, 958139571, 1322822218, 1537002063, 1747873779, 1955562222, 2024104815, 2227730452, 2361852424, 2428436474, 2756734187, 3204031479, 3329325298] ++ List.replicate (64 - 64) 0)] Tryd.sizeOf170 (opt 0 rfl) (opt 1 rfl) (cells_agg _) rfl rfl rfl) rfl)⟩, trivial⟩
  clear h
  intro β a w h
  change SatL c [.slot 0 (lpVP p1 0), .res (lb p1 170 [intsCk .u32 64 ([1116352408, 1899447441, 3049323471, 3921009573, 961987163, 1508970993, 2453635748, 2870763221, 3624381080, 310598401, 607225278, 1426881987, 1925078388, 2162078206, 2614888103, 3248222580, 3835390401, 4022224774, 264347078, 604807628, 770255983, 1249150122, 1555081692, 1996064986, 2554220882, 2821834349, 2952996808, 3210313671, 3336571891, 3584528711, 113926993, 338241895, 666307205, 773529912, 1294757372, 1396182291, 1695183700, 1986661051, 2177026350, 2456956037, 2730485921, 2820302411, 3259730800, 3345764771, 3516065817, 3600352804, 4094571909, 275423344, 430227734, 506948616, 659060556, 883997877, 958139571, 1322822218, 1537002063, 1747873779, 1955562222, 2024104815, 2227730452, 2361852424, 2428436474, 2756734187, 3204031479, 3329325298] ++ List.replicate (64 - 64) 0)])] a w at h
  clear β
  show Code.wp Tryd.prog _ _ a w
  refine wp_ret ?_
  obtain rfl := Option.some.inj hF
  exact ⟨.inl rfl, ret1 h Tryd.results105 (r_cell 0 1 rfl rfl Tryd.isAgg170 Tryd.sizeOf170 rfl) [] [] rfl rfl rfl⟩

def ref01_turn (a_0 : Int) (a_1 : Int) : Option Int := some (bits .or .u32 (shr .u32 a_0 a_1) (shl .u32 a_0 (IntKind.wrap .u64 (32 - a_1))))
theorem ref01_turn_ok {a_0 : Int} {a_1 : Int} {r : Int} (hF : ref01_turn a_0 a_1 = some r) : CallOk Tryd.prog KG 106 [(intVP .u32 a_0), (intVP .u64 a_1)] [] (fun _ => []) (intVP .u32 r) := by
  refine CallOk.intro 13 Tryd.func106 rfl Tryd.ntmps106 (Nat.le_of_ble_eq_true rfl) ?_
  intro c a w hG hn h
  unfold ref01_turn at hF
  change SatL c [.slot 0 (intVP .u32 a_0), .slot 1 (intVP .u64 a_1)] a w at h
  refine wp_seq ?_
  refine region_do (n := 13) [.slot 4 100000 100000 (fun _ _ => (intVP .u32 0))] [0] [⟨[], [], [2], [], some 4⟩] [0, 1] mixed hn hG h (by kernel_rfl) ?_ ?_
  · exact ⟨⟨rfl, fun β => (GOk.plain (op_assign (opc (ic (by decide)))) rfl)⟩, trivial⟩
  clear h
  intro β a w h
  change SatL c [.slot 0 (intVP .u32 a_0), .slot 1 (intVP .u64 a_1)] a w at h
  clear β
  show Code.wp Tryd.prog _ _ a w
  refine wp_seq ?_
  refine region_do (n := 13) [.slot 5 100000 100000 (fun _ _ => (intVP .u32 a_0)),
      .slot 6 100000 100000 (fun _ _ => (intVP .u64 a_1)),
      .slot 7 100000 100000 (fun _ _ => (intVP .u32 (shr .u32 a_0 a_1))),
      .slot 8 100000 100000 (fun _ _ => (intVP .u32 a_0)),
      .slot 9 100000 100000 (fun _ _ => (intVP .u64 a_1)),
      .slot 10 100000 100000 (fun _ _ => (intVP .u64 (IntKind.wrap .u64 (32 - a_1)))),
      .slot 11 100000 100000 (fun _ _ => (intVP .u32 (shl .u32 a_0 (IntKind.wrap .u64 (32 - a_1))))),
      .slot 12 100000 100000 (fun _ _ => (intVP .u32 (bits .or .u32 (shr .u32 a_0 a_1) (shl .u32 a_0 (IntKind.wrap .u64 (32 - a_1)))))),
      .slot 4 100000 100000 (fun _ _ => (intVP .u32 (bits .or .u32 (shr .u32 a_0 a_1) (shl .u32 a_0 (IntKind.wrap .u64 (32 - a_1))))))] [0, 1, 2, 3, 4, 5, 6, 7, 8] [⟨[0], [], [2], [], some 5⟩, ⟨[1], [], [3], [0], some 6⟩, ⟨[2, 3], [], [4], [0, 1], some 7⟩, ⟨[0], [], [5], [0, 1, 2], some 8⟩, ⟨[1], [], [6], [0, 1, 2, 3], some 9⟩, ⟨[6], [], [7], [0, 1, 2, 3, 4], some 10⟩, ⟨[5, 7], [], [8], [0, 1, 2, 3, 4, 5], some 11⟩, ⟨[4, 8], [], [9], [0, 1, 2, 3, 4, 5, 6], some 12⟩, ⟨[9], [], [10], [0, 1, 2, 3, 4, 5, 6, 7], some 4⟩] [10] mixed hn hG h (by kernel_rfl) ?_ ?_
  · exact ⟨⟨rfl, fun β => (GOk.plain (op_move (opt 0 rfl)) rfl)⟩, ⟨rfl, fun β => (GOk.plain (op_move (opt 0 rfl)) rfl)⟩, ⟨rfl, fun β => (GOk.plain (op_bin (bin_shru rfl) (opt 0 rfl) (opt 1 rfl)) rfl)⟩, ⟨rfl, fun β => (GOk.plain (op_move (opt 0 rfl)) rfl)⟩, ⟨rfl, fun β => (GOk.plain (op_move (opt 0 rfl)) rfl)⟩, ⟨rfl, fun β => (GOk.plain (op_bin bin_sub (opc (ic (by decide))) (opt 0 rfl)) rfl)⟩, ⟨rfl, fun β => (GOk.plain (op_bin (bin_shlu rfl) (opt 0 rfl) (opt 1 rfl)) rfl)⟩, ⟨rfl, fun β => (GOk.plain (op_bin bin_or (opt 0 rfl) (opt 1 rfl)) rfl)⟩, ⟨rfl, fun β => (GOk.plain (op_assign (opt 0 rfl)) rfl)⟩, trivial⟩
  clear h
  intro β a w h
  change SatL c [.slot 4 (intVP .u32 (bits .or .u32 (shr .u32 a_0 a_1) (shl .u32 a_0 (IntKind.wrap .u64 (32 - a_1)))))] a w at h
  clear β
  show Code.wp Tryd.prog _ _ a w
  refine wp_ret ?_
  obtain rfl := Option.some.inj hF
  exact ⟨.inl rfl, ret1 h Tryd.results106 (r_tmp 0 rfl) [] [] rfl rfl rfl⟩
end Go.Proofs.YtamnmljgcmbliaaDoor
