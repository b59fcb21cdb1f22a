/- The functions' Lean twins and contracts, printed by this session's own program: part 3. -/
import Derived.Test.YtnjkofmmpfehcaaDoorRG2
namespace Go.Proofs.YtnjkofmmpfehcaaDoorR
open Go Go.RowKit Go.Proofs
set_option maxRecDepth 100000
set_option maxHeartbeats 4000000
set_option linter.unusedVariables false
def ref01_Block.b1 (a_1 : List (UInt8)) (x12 : Int) (x13 : List Int) : Option (Flow (List Int) (Int × (List Int))) := (if (decide (x12 < (16 : Int))) = true then (if (0 : Int) ≤ IntKind.wrap .i64 (4 * x12) ∧ IntKind.wrap .i64 (4 * x12) < a_1.length then (if (0 : Int) ≤ IntKind.wrap .i64 ((IntKind.wrap .i64 (4 * x12)) + 1) ∧ IntKind.wrap .i64 ((IntKind.wrap .i64 (4 * x12)) + 1) < a_1.length then (if (0 : Int) ≤ IntKind.wrap .i64 ((IntKind.wrap .i64 (4 * x12)) + 2) ∧ IntKind.wrap .i64 ((IntKind.wrap .i64 (4 * x12)) + 2) < a_1.length then (if (0 : Int) ≤ IntKind.wrap .i64 ((IntKind.wrap .i64 (4 * x12)) + 3) ∧ IntKind.wrap .i64 ((IntKind.wrap .i64 (4 * x12)) + 3) < a_1.length then (if (0 : Int) ≤ x12 ∧ x12 < 64 then some (.cont (IntKind.wrap .i64 (x12 + 1), x13.set x12.toNat (IntKind.wrap .u32 ((IntKind.wrap .u32 ((IntKind.wrap .u32 ((IntKind.wrap .u32 ((IntKind.wrap .u32 ((a_1.getD (IntKind.wrap .i64 (4 * x12)).toNat default).toNat)) * 16777216)) + (IntKind.wrap .u32 ((IntKind.wrap .u32 ((a_1.getD (IntKind.wrap .i64 ((IntKind.wrap .i64 (4 * x12)) + 1)).toNat default).toNat)) * 65536)))) + (IntKind.wrap .u32 ((IntKind.wrap .u32 ((a_1.getD (IntKind.wrap .i64 ((IntKind.wrap .i64 (4 * x12)) + 2)).toNat default).toNat)) * 256)))) + (IntKind.wrap .u32 ((a_1.getD (IntKind.wrap .i64 ((IntKind.wrap .i64 (4 * x12)) + 3)).toNat default).toNat)))))) else none) else none) else none) else none) else none) else some (.brk (x12, x13)))
def ref01_Block.b2 (x43 : Int) (x44 : List Int) : Option (Flow (List Int) (Int × (List Int))) := (if (decide (x43 < (64 : Int))) = true then (if (0 : Int) ≤ IntKind.wrap .i64 (x43 - 15) ∧ IntKind.wrap .i64 (x43 - 15) < 64 then ((ref01_turn (x44.getD (IntKind.wrap .i64 (x43 - 15)).toNat 0) 7).bind fun r59 => ((ref01_turn (x44.getD (IntKind.wrap .i64 (x43 - 15)).toNat 0) 18).bind fun r60 => (if (0 : Int) ≤ IntKind.wrap .i64 (x43 - 2) ∧ IntKind.wrap .i64 (x43 - 2) < 64 then ((ref01_turn (x44.getD (IntKind.wrap .i64 (x43 - 2)).toNat 0) 17).bind fun r62 => ((ref01_turn (x44.getD (IntKind.wrap .i64 (x43 - 2)).toNat 0) 19).bind fun r63 => (if (0 : Int) ≤ IntKind.wrap .i64 (x43 - 16) ∧ IntKind.wrap .i64 (x43 - 16) < 64 then (if (0 : Int) ≤ IntKind.wrap .i64 (x43 - 7) ∧ IntKind.wrap .i64 (x43 - 7) < 64 then (if (0 : Int) ≤ x43 ∧ x43 < 64 then some (.cont (IntKind.wrap .i64 (x43 + 1), x44.set x43.toNat (IntKind.wrap .u32 ((IntKind.wrap .u32 ((IntKind.wrap .u32 ((x44.getD (IntKind.wrap .i64 (x43 - 16)).toNat 0) + (bits .xor .u32 (bits .xor .u32 r59 r60) (shr .u32 (x44.getD (IntKind.wrap .i64 (x43 - 15)).toNat 0) 3)))) + (x44.getD (IntKind.wrap .i64 (x43 - 7)).toNat 0))) + (bits .xor .u32 (bits .xor .u32 r62 r63) (shr .u32 (x44.getD (IntKind.wrap .i64 (x43 - 2)).toNat 0) 10)))))) else none) else none) else none))) else none))) else none) else some (.brk (x43, x44)))
def ref01_Block.b3 (r4 : (List Int)) (y72 : List Int) (x80 : Int) (x81 : Int) (x82 : Int) (x83 : Int) (x84 : Int) (x85 : Int) (x86 : Int) (x87 : Int) (x88 : Int) : Option (Flow (List Int) (Int × Int × Int × Int × Int × Int × Int × Int × Int)) := (if (decide (x88 < (64 : Int))) = true then ((ref01_turn x84 6).bind fun r107 => ((ref01_turn x84 11).bind fun r108 => ((ref01_turn x84 25).bind fun r109 => (if (0 : Int) ≤ x88 ∧ x88 < 64 then ((ref01_turn x80 2).bind fun r111 => ((ref01_turn x80 13).bind fun r112 => ((ref01_turn x80 22).bind fun r113 => some (.cont (IntKind.wrap .u32 ((IntKind.wrap .u32 ((IntKind.wrap .u32 ((IntKind.wrap .u32 ((IntKind.wrap .u32 (x87 + (bits .xor .u32 (bits .xor .u32 r107 r108) r109))) + (bits .xor .u32 (bits .and .u32 x84 x85) (bits .and .u32 (bits .xor .u32 4294967295 x84) x86)))) + (r4.getD x88.toNat 0))) + (y72.getD x88.toNat 0))) + (IntKind.wrap .u32 ((bits .xor .u32 (bits .xor .u32 r111 r112) r113) + (bits .xor .u32 (bits .xor .u32 (bits .and .u32 x80 x81) (bits .and .u32 x80 x82)) (bits .and .u32 x81 x82))))), x80, x81, x82, IntKind.wrap .u32 (x83 + (IntKind.wrap .u32 ((IntKind.wrap .u32 ((IntKind.wrap .u32 ((IntKind.wrap .u32 (x87 + (bits .xor .u32 (bits .xor .u32 r107 r108) r109))) + (bits .xor .u32 (bits .and .u32 x84 x85) (bits .and .u32 (bits .xor .u32 4294967295 x84) x86)))) + (r4.getD x88.toNat 0))) + (y72.getD x88.toNat 0)))), x84, x85, x86, IntKind.wrap .i64 (x88 + 1)))))) else none)))) else some (.brk (x80, x81, x82, x83, x84, x85, x86, x87, x88)))
def ref01_Block (a_0 : List Int) (a_1 : List (UInt8)) : Option (List Int) := (if (!decide ((a_1.length : Int) = (64 : Int))) = true then some a_0 else ((ref01_constants).bind fun r4 => ((loopN (fun s : Int × (List Int) => ref01_Block.b1 a_1 s.1 s.2) ((16 - 0 : Int).toNat + 2) (0, (List.replicate 64 0))).bind fun cr => match cr with | .ret r => some r | .next (y32, y33) => ((loopN (fun s : Int × (List Int) => ref01_Block.b2 s.1 s.2) ((64 - 16 : Int).toNat + 2) (16, y33)).bind fun cr => match cr with | .ret r => some r | .next (y71, y72) => ((loopN (fun s : Int × Int × Int × Int × Int × Int × Int × Int × Int => ref01_Block.b3 r4 y72 s.1 s.2.1 s.2.2.1 s.2.2.2.1 s.2.2.2.2.1 s.2.2.2.2.2.1 s.2.2.2.2.2.2.1 s.2.2.2.2.2.2.2.1 s.2.2.2.2.2.2.2.2) ((64 - 0 : Int).toNat + 2) (a_0.getD (0 : Int).toNat 0, a_0.getD (1 : Int).toNat 0, a_0.getD (2 : Int).toNat 0, a_0.getD (3 : Int).toNat 0, a_0.getD (4 : Int).toNat 0, a_0.getD (5 : Int).toNat 0, a_0.getD (6 : Int).toNat 0, a_0.getD (7 : Int).toNat 0, 0)).bind fun cr => match cr with | .ret r => some r | .next (y118, y119, y120, y121, y122, y123, y124, y125, y126) => some ([IntKind.wrap .u32 ((a_0.getD (0 : Int).toNat 0) + y118), IntKind.wrap .u32 ((a_0.getD (1 : Int).toNat 0) + y119), IntKind.wrap .u32 ((a_0.getD (2 : Int).toNat 0) + y120), IntKind.wrap .u32 ((a_0.getD (3 : Int).toNat 0) + y121), IntKind.wrap .u32 ((a_0.getD (4 : Int).toNat 0) + y122), IntKind.wrap .u32 ((a_0.getD (5 : Int).toNat 0) + y123), IntKind.wrap .u32 ((a_0.getD (6 : Int).toNat 0) + y124), IntKind.wrap .u32 ((a_0.getD (7 : Int).toNat 0) + y125)] ++ List.replicate (8 - 8) 0))))))
theorem ref01_Block_ok {a_0 : List Int} {a_1 : List (UInt8)} {r : (List Int)} (hF : ref01_Block a_0 a_1 = some r) : CallOk Tryd.prog KG 222 [(aggVP [intsCk .u32 8 a_0]), (slVP bC a_1)] [] (fun _ => []) (aggVP [intsCk .u32 8 r]) := by
  refine CallOk.intro 231 Tryd.func222 rfl Tryd.ntmps222 (Nat.le_of_ble_eq_true rfl) ?_
  intro c a w hG hn h
  unfold ref01_Block at hF
  change SatL c [.slot 0 (aggVP [intsCk .u32 8 a_0]), .slot 1 (slVP bC a_1)] a w at h
  refine regS mixed hn hG h [1, 503, 501, 502, 500] (ob [0] (op_box q0 (cells_agg _)) <| ob [] (op_alloc Tryd.zeroValue280 z280) .nil) fun b1 a w h => ?_
  refine wp_seq ?_
  refine regS mixed hn hG h [0, 1, 2, 500, 3, 4] (ov [0] (op_move q0) <| ov [500] (op_len_sl Tryd.underlying259 q0) <| ov [500] (op_bin bin_neq q0 qi) .nil) fun _ a w h => ?_
  refine cnd h hF 3 [1, 2, 4, 5] [0, 1, 2, 4, 5] (fun hb3 hF h => ?_) (fun hb3 hF h => ?_)
  · refine regS mixed hn hG h [1, 500] (ov [0, 2] (op_load_w 1 Tryd.isAgg280 Tryd.sizeOf280 q0) <| ou [1, 500] 3 (op_store_w Tryd.sizeOf280 q0 q1 (cells_agg _)) .nil) fun _ a w h => ?_
    refine wp_ret ?_
    obtain rfl := Option.some.inj hF
    exact ⟨.inl rfl, ret1 h Tryd.results222 (r_cell 0 1 rfl rfl Tryd.isAgg280 Tryd.sizeOf280 rfl) [] [] rfl rfl rfl⟩
  · refine wp_skip ?_
    show Code.wp Tryd.prog _ _ a w
    obtain ⟨r4, hr4, hF⟩ := bind_some hF
    refine regS mixed hn hG h [0, 1, 2, 502, 3, 4, 500] (oc [] [] Tryd.call231 (ref01_constants_ok hr4) trivial <| ob [] (op_alloc Tryd.zeroValue327 z327) <| og [501, 502] [500] [.res 1 100000 (fun v1_ _ => (lb (v1_) 327 [intsCk .u32 64 r4]))] (GOk.plain (op_store_w Tryd.sizeOf327 q0 q1 (cells_agg _)) rfl) .nil) fun b5 a w h => ?_
    refine regS mixed hn hG h [0, 1, 2, 3, 501, 4, 5, 6, 500] (ob [] (op_alloc Tryd.zeroValue327 z327) .nil) fun b6 a w h => ?_
    refine wp_seq ?_
    refine regS mixed hn hG h [0, 1, 2, 3, 4, 500, 5, 6, 7, 8] (ov [] (op_assign qi) .nil) fun _ a w h => ?_
    refine wp_block ?_
    obtain ⟨cr28, hl29, hF⟩ := bind_some hF
    refine wp_mono (wp_loopN (R := (List Int)) (S := Int × (List Int)) (fun s a w => SatL c [.slot 1 (slVP bC a_1), .slot 2 (lpVP (b1 0) 0), .slot 4 (lpVP (b1 1) 0), .slot 5 (lpVP (b5 1) 0), .slot 6 (lpVP (b6 0) 0), .slot 7 (intVP .i64 s.1), .res (lb (b1 0) 280 [intsCk .u32 8 a_0]), .res (lb (b1 1) 280 [intsCk .u32 8 (List.replicate 8 0)]), .res (lb (b5 1) 327 [intsCk .u32 64 r4]), .res (lb (b6 0) 327 [intsCk .u32 64 s.2])] a w) (fun res e a w => match res with | .next s => e = .exit 0 ∧ SatL c [.slot 2 (lpVP (b1 0) 0), .slot 4 (lpVP (b1 1) 0), .slot 5 (lpVP (b5 1) 0), .slot 6 (lpVP (b6 0) 0), .res (lb (b1 0) 280 [intsCk .u32 8 a_0]), .res (lb (b1 1) 280 [intsCk .u32 8 (List.replicate 8 0)]), .res (lb (b5 1) 327 [intsCk .u32 64 r4]), .res (lb (b6 0) 327 [intsCk .u32 64 s.2])] a w | .ret r => e = .ret ∧ RetOk Tryd.prog Tryd.f222 c (aggVP [intsCk .u32 8 r]) (fun _ => []) a w) ?_ _ (0, (List.replicate 64 0)) _ _ _ (h.sub [0, 1, 2, 3, 4, 5, 6, 7, 8, 9] (by rfl)) hl29) ?_
    · clear hl29 hF h
      intro s a w o h hF
      obtain ⟨x12, x13⟩ := s
      change ref01_Block.b1 a_1 x12 x13 = some o at hF
      unfold ref01_Block.b1 at hF
      change SatL c [.slot 1 (slVP bC a_1), .slot 2 (lpVP (b1 0) 0), .slot 4 (lpVP (b1 1) 0), .slot 5 (lpVP (b5 1) 0), .slot 6 (lpVP (b6 0) 0), .slot 7 (intVP .i64 x12), .res (lb (b1 0) 280 [intsCk .u32 8 a_0]), .res (lb (b1 1) 280 [intsCk .u32 8 (List.replicate 8 0)]), .res (lb (b5 1) 327 [intsCk .u32 64 r4]), .res (lb (b6 0) 327 [intsCk .u32 64 x13])] a w at h
      refine wp_seq ?_
      refine regS mixed hn hG h [0, 1, 2, 3, 4, 5, 500, 6, 7, 8, 9] (ov [5] (op_move q0) <| ov [500] (op_bin bin_lss q0 qi) .nil) fun _ a w h => ?_
      refine cnd h hF 6 [0, 1, 2, 3, 4, 5, 7, 8, 9, 10] [0, 1, 2, 3, 4, 5, 7, 8, 9, 10] (fun hb22 hF h => ?_) (fun hb22 hF h => ?_)
      · refine wp_skip ?_
        show Code.wp Tryd.prog _ _ a w
        refine wp_seq ?_
        refine wp_block ?_
        obtain ⟨hv23, hF⟩ := ite_some hF
        obtain ⟨hv24, hF⟩ := ite_some hF
        obtain ⟨hv25, hF⟩ := ite_some hF
        obtain ⟨hv26, hF⟩ := ite_some hF
        obtain ⟨hv27, hF⟩ := ite_some hF
        refine reg mixed hn hG h [0, 1, 2, 3, 4, 5, 6, 7, 8, 500] (ov [5] (op_move q0) <| ov [0] (op_move q0) <| ov [5] (op_move q0) <| ov [500] (op_bin bin_mul qi q0) <| ov [502, 500] (op_indexAddr_sl Tryd.underlying259 Tryd.sizeOf5 lens_bC q0 q1 hv23) <| ov [500] (op_load_pp1 [] Tryd.isAgg5 q0) <| ov [500] (op_convert_int Tryd.underlying5 Tryd.underlying22 q0) <| ov [500] (op_bin bin_mul q0 qi) <| ov [0] (op_move q0) <| ov [5] (op_move q0) <| ov [500] (op_bin bin_mul qi q0) <| ov [500] (op_bin bin_add q0 qi) <| ov [503, 500] (op_indexAddr_sl Tryd.underlying259 Tryd.sizeOf5 lens_bC q0 q1 hv24) <| ov [500] (op_load_pp1 [] Tryd.isAgg5 q0) <| ov [500] (op_convert_int Tryd.underlying5 Tryd.underlying22 q0) <| ov [500] (op_bin bin_mul q0 qi) <| ov [508, 500] (op_bin bin_add q0 q1) <| ov [0] (op_move q0) <| ov [5] (op_move q0) <| ov [500] (op_bin bin_mul qi q0) <| ov [500] (op_bin bin_add q0 qi) <| ov [503, 500] (op_indexAddr_sl Tryd.underlying259 Tryd.sizeOf5 lens_bC q0 q1 hv25) <| ov [500] (op_load_pp1 [] Tryd.isAgg5 q0) <| ov [500] (op_convert_int Tryd.underlying5 Tryd.underlying22 q0) <| ov [500] (op_bin bin_mul q0 qi) <| ov [508, 500] (op_bin bin_add q0 q1) <| ov [0] (op_move q0) <| ov [5] (op_move q0) <| ov [500] (op_bin bin_mul qi q0) <| ov [500] (op_bin bin_add q0 qi) <| ov [503, 500] (op_indexAddr_sl Tryd.underlying259 Tryd.sizeOf5 lens_bC q0 q1 hv26) <| ov [500] (op_load_pp1 [] Tryd.isAgg5 q0) <| ov [500] (op_convert_int Tryd.underlying5 Tryd.underlying22 q0) <| ov [507, 500] (op_bin bin_add q0 q1) <| ov [4, 533] (op_indexAddr_lb Tryd.underlying327 Tryd.sizeOf22 q0 q1 hv27) <| ou [500, 501] 9 (op_store_lbI (i := x12) [] [] Tryd.sizeOf22 q0 q1 rfl hv27) .nil) fun _ a w h => ?_
        show Code.wp Tryd.prog _ _ a w
        refine reg mixed hn hG h [0, 1, 2, 3, 4, 500, 6, 7, 8, 9] (ov [5] (op_move q0) <| ov [500] (op_bin bin_add q0 qi) <| od [500] 5 (op_assign q0) .nil) fun _ a w h => ?_
        obtain rfl := Option.some.inj hF
        exact ⟨rfl, h.sub [0, 1, 2, 3, 4, 5, 6, 7, 8, 9] (by rfl)⟩
      · refine wp_exit ?_
        obtain rfl := Option.some.inj hF
        exact ⟨exit_ne _, rfl, h.sub [1, 2, 3, 4, 6, 7, 8, 9] (by rfl)⟩
    · clear hl29
      intro e a w hq
      cases cr28 with
      | ret r30 =>
        obtain ⟨rfl, hq⟩ := hq
        obtain rfl := Option.some.inj hF
        exact ⟨.inl rfl, hq⟩
      | next s31 =>
        obtain ⟨y32, y33⟩ := s31
        obtain ⟨rfl, h⟩ := hq
        change SatL c [.slot 2 (lpVP (b1 0) 0), .slot 4 (lpVP (b1 1) 0), .slot 5 (lpVP (b5 1) 0), .slot 6 (lpVP (b6 0) 0), .res (lb (b1 0) 280 [intsCk .u32 8 a_0]), .res (lb (b1 1) 280 [intsCk .u32 8 (List.replicate 8 0)]), .res (lb (b5 1) 327 [intsCk .u32 64 r4]), .res (lb (b6 0) 327 [intsCk .u32 64 y33])] a w at h
        refine inBlock_at ?_
        show Code.wp Tryd.prog _ _ a w
        refine wp_seq ?_
        refine regS mixed hn hG h [0, 1, 2, 3, 500, 4, 5, 6, 7] (ov [] (op_assign qi) .nil) fun _ a w h => ?_
        refine wp_block ?_
        obtain ⟨cr67, hl68, hF⟩ := bind_some hF
        refine wp_mono (wp_loopN (R := (List Int)) (S := Int × (List Int)) (fun s a w => SatL c [.slot 2 (lpVP (b1 0) 0), .slot 4 (lpVP (b1 1) 0), .slot 5 (lpVP (b5 1) 0), .slot 6 (lpVP (b6 0) 0), .slot 8 (intVP .i64 s.1), .res (lb (b1 0) 280 [intsCk .u32 8 a_0]), .res (lb (b1 1) 280 [intsCk .u32 8 (List.replicate 8 0)]), .res (lb (b5 1) 327 [intsCk .u32 64 r4]), .res (lb (b6 0) 327 [intsCk .u32 64 s.2])] a w) (fun res e a w => match res with | .next s => e = .exit 2 ∧ SatL c [.slot 2 (lpVP (b1 0) 0), .slot 4 (lpVP (b1 1) 0), .slot 5 (lpVP (b5 1) 0), .slot 6 (lpVP (b6 0) 0), .res (lb (b1 0) 280 [intsCk .u32 8 a_0]), .res (lb (b1 1) 280 [intsCk .u32 8 (List.replicate 8 0)]), .res (lb (b5 1) 327 [intsCk .u32 64 r4]), .res (lb (b6 0) 327 [intsCk .u32 64 s.2])] a w | .ret r => e = .ret ∧ RetOk Tryd.prog Tryd.f222 c (aggVP [intsCk .u32 8 r]) (fun _ => []) a w) ?_ _ (16, y33) _ _ _ (h.sub [0, 1, 2, 3, 4, 5, 6, 7, 8] (by rfl)) hl68) ?_
        · clear hl68 hF h
          intro s a w o h hF
          obtain ⟨x43, x44⟩ := s
          change ref01_Block.b2 x43 x44 = some o at hF
          unfold ref01_Block.b2 at hF
          change SatL c [.slot 2 (lpVP (b1 0) 0), .slot 4 (lpVP (b1 1) 0), .slot 5 (lpVP (b5 1) 0), .slot 6 (lpVP (b6 0) 0), .slot 8 (intVP .i64 x43), .res (lb (b1 0) 280 [intsCk .u32 8 a_0]), .res (lb (b1 1) 280 [intsCk .u32 8 (List.replicate 8 0)]), .res (lb (b5 1) 327 [intsCk .u32 64 r4]), .res (lb (b6 0) 327 [intsCk .u32 64 x44])] a w at h
          refine wp_seq ?_
          refine regS mixed hn hG h [0, 1, 2, 3, 4, 500, 5, 6, 7, 8] (ov [4] (op_move q0) <| ov [500] (op_bin bin_lss q0 qi) .nil) fun _ a w h => ?_
          refine cnd h hF 5 [0, 1, 2, 3, 4, 6, 7, 8, 9] [0, 1, 2, 3, 4, 6, 7, 8, 9] (fun hb57 hF h => ?_) (fun hb57 hF h => ?_)
          · refine wp_skip ?_
            show Code.wp Tryd.prog _ _ a w
            refine wp_seq ?_
            refine wp_block ?_
            obtain ⟨hv58, hF⟩ := ite_some hF
            obtain ⟨r59, hr59, hF⟩ := bind_some hF
            obtain ⟨r60, hr60, hF⟩ := bind_some hF
            refine regS mixed hn hG h [0, 1, 2, 3, 4, 500, 5, 6, 7, 8] (ov [4] (op_move q0) <| ov [500] (op_bin bin_sub q0 qi) <| ov [3, 500] (op_indexAddr_lb Tryd.underlying327 Tryd.sizeOf22 q0 q1 hv58) <| ov [500, 8] (op_load_lbI (i := IntKind.wrap .i64 (x43 - 15)) [] [] 1 Tryd.isAgg22 q0 rfl rfl hv58) <| oc [500] [] Tryd.call232 (ref01_turn_ok hr59) ⟨q0, qi, trivial⟩ <| ov [4] (op_move q0) <| ov [500] (op_bin bin_sub q0 qi) <| ov [3, 500] (op_indexAddr_lb Tryd.underlying327 Tryd.sizeOf22 q0 q1 hv58) <| ov [500, 8] (op_load_lbI (i := IntKind.wrap .i64 (x43 - 15)) [] [] 1 Tryd.isAgg22 q0 rfl rfl hv58) <| oc [500] [] Tryd.call232 (ref01_turn_ok hr60) ⟨q0, qi, trivial⟩ <| ov [505, 500] (op_bin bin_xor q0 q1) <| ov [4] (op_move q0) <| ov [500] (op_bin bin_sub q0 qi) <| ov [3, 500] (op_indexAddr_lb Tryd.underlying327 Tryd.sizeOf22 q0 q1 hv58) <| ov [500, 8] (op_load_lbI (i := IntKind.wrap .i64 (x43 - 15)) [] [] 1 Tryd.isAgg22 q0 rfl rfl hv58) <| ov [500] (op_bin (bin_shru rfl) q0 qi) <| ov [505, 500] (op_bin bin_xor q0 q1) <| ov [500] (op_assign q0) .nil) fun _ a w h => ?_
            obtain ⟨hv61, hF⟩ := ite_some hF
            obtain ⟨r62, hr62, hF⟩ := bind_some hF
            obtain ⟨r63, hr63, hF⟩ := bind_some hF
            refine regS mixed hn hG h [0, 1, 2, 3, 4, 5, 500, 6, 7, 8, 9] (ov [4] (op_move q0) <| ov [500] (op_bin bin_sub q0 qi) <| ov [3, 500] (op_indexAddr_lb Tryd.underlying327 Tryd.sizeOf22 q0 q1 hv61) <| ov [500, 9] (op_load_lbI (i := IntKind.wrap .i64 (x43 - 2)) [] [] 1 Tryd.isAgg22 q0 rfl rfl hv61) <| oc [500] [] Tryd.call232 (ref01_turn_ok hr62) ⟨q0, qi, trivial⟩ <| ov [4] (op_move q0) <| ov [500] (op_bin bin_sub q0 qi) <| ov [3, 500] (op_indexAddr_lb Tryd.underlying327 Tryd.sizeOf22 q0 q1 hv61) <| ov [500, 9] (op_load_lbI (i := IntKind.wrap .i64 (x43 - 2)) [] [] 1 Tryd.isAgg22 q0 rfl rfl hv61) <| oc [500] [] Tryd.call232 (ref01_turn_ok hr63) ⟨q0, qi, trivial⟩ <| ov [505, 500] (op_bin bin_xor q0 q1) <| ov [4] (op_move q0) <| ov [500] (op_bin bin_sub q0 qi) <| ov [3, 500] (op_indexAddr_lb Tryd.underlying327 Tryd.sizeOf22 q0 q1 hv61) <| ov [500, 9] (op_load_lbI (i := IntKind.wrap .i64 (x43 - 2)) [] [] 1 Tryd.isAgg22 q0 rfl rfl hv61) <| ov [500] (op_bin (bin_shru rfl) q0 qi) <| ov [505, 500] (op_bin bin_xor q0 q1) <| ov [500] (op_assign q0) .nil) fun _ a w h => ?_
            obtain ⟨hv64, hF⟩ := ite_some hF
            obtain ⟨hv65, hF⟩ := ite_some hF
            obtain ⟨hv66, hF⟩ := ite_some hF
            refine reg mixed hn hG h [0, 1, 2, 3, 4, 7, 8, 9, 500] (ov [4] (op_move q0) <| ov [4] (op_move q0) <| ov [500] (op_bin bin_sub q0 qi) <| ov [3, 500] (op_indexAddr_lb Tryd.underlying327 Tryd.sizeOf22 q0 q1 hv64) <| ov [500, 10] (op_load_lbI (i := IntKind.wrap .i64 (x43 - 16)) [] [] 1 Tryd.isAgg22 q0 rfl rfl hv64) <| ov [5] (op_move q0) <| ov [501, 500] (op_bin bin_add q0 q1) <| ov [4] (op_move q0) <| ov [500] (op_bin bin_sub q0 qi) <| ov [3, 500] (op_indexAddr_lb Tryd.underlying327 Tryd.sizeOf22 q0 q1 hv65) <| ov [500, 10] (op_load_lbI (i := IntKind.wrap .i64 (x43 - 7)) [] [] 1 Tryd.isAgg22 q0 rfl rfl hv65) <| ov [504, 500] (op_bin bin_add q0 q1) <| ov [6] (op_move q0) <| ov [501, 500] (op_bin bin_add q0 q1) <| ov [3, 513] (op_indexAddr_lb Tryd.underlying327 Tryd.sizeOf22 q0 q1 hv66) <| ou [500, 501] 10 (op_store_lbI (i := x43) [] [] Tryd.sizeOf22 q0 q1 rfl hv66) .nil) fun _ a w h => ?_
            show Code.wp Tryd.prog _ _ a w
            refine reg mixed hn hG h [0, 1, 2, 3, 500, 5, 6, 7, 8] (ov [4] (op_move q0) <| ov [500] (op_bin bin_add q0 qi) <| od [500] 4 (op_assign q0) .nil) fun _ a w h => ?_
            obtain rfl := Option.some.inj hF
            exact ⟨rfl, h.sub [0, 1, 2, 3, 4, 5, 6, 7, 8] (by rfl)⟩
          · refine wp_exit ?_
            obtain rfl := Option.some.inj hF
            exact ⟨exit_ne _, rfl, h.sub [0, 1, 2, 3, 5, 6, 7, 8] (by rfl)⟩
        · clear hl68
          intro e a w hq
          cases cr67 with
          | ret r69 =>
            obtain ⟨rfl, hq⟩ := hq
            obtain rfl := Option.some.inj hF
            exact ⟨.inl rfl, hq⟩
          | next s70 =>
            obtain ⟨y71, y72⟩ := s70
            obtain ⟨rfl, h⟩ := hq
            change SatL c [.slot 2 (lpVP (b1 0) 0), .slot 4 (lpVP (b1 1) 0), .slot 5 (lpVP (b5 1) 0), .slot 6 (lpVP (b6 0) 0), .res (lb (b1 0) 280 [intsCk .u32 8 a_0]), .res (lb (b1 1) 280 [intsCk .u32 8 (List.replicate 8 0)]), .res (lb (b5 1) 327 [intsCk .u32 64 r4]), .res (lb (b6 0) 327 [intsCk .u32 64 y72])] a w at h
            refine inBlock_at ?_
            show Code.wp Tryd.prog _ _ a w
            refine regS mixed hn hG h [0, 1, 2, 3, 507, 506, 505, 504, 503, 502, 501, 500, 4, 5, 6, 7] (ov [0] (op_indexAddr_lb Tryd.underlying280 Tryd.sizeOf22 q0 qi (by decide)) <| ov [500, 4] (op_load_lbI (i := 0) [] [] 1 Tryd.isAgg22 q0 rfl rfl (by decide)) <| ov [0] (op_indexAddr_lb Tryd.underlying280 Tryd.sizeOf22 q0 qi (by decide)) <| ov [500, 4] (op_load_lbI (i := 1) [] [] 1 Tryd.isAgg22 q0 rfl rfl (by decide)) <| ov [0] (op_indexAddr_lb Tryd.underlying280 Tryd.sizeOf22 q0 qi (by decide)) <| ov [500, 4] (op_load_lbI (i := 2) [] [] 1 Tryd.isAgg22 q0 rfl rfl (by decide)) <| ov [0] (op_indexAddr_lb Tryd.underlying280 Tryd.sizeOf22 q0 qi (by decide)) <| ov [500, 4] (op_load_lbI (i := 3) [] [] 1 Tryd.isAgg22 q0 rfl rfl (by decide)) <| ov [0] (op_indexAddr_lb Tryd.underlying280 Tryd.sizeOf22 q0 qi (by decide)) <| ov [500, 4] (op_load_lbI (i := 4) [] [] 1 Tryd.isAgg22 q0 rfl rfl (by decide)) <| ov [0] (op_indexAddr_lb Tryd.underlying280 Tryd.sizeOf22 q0 qi (by decide)) <| ov [500, 4] (op_load_lbI (i := 5) [] [] 1 Tryd.isAgg22 q0 rfl rfl (by decide)) <| ov [0] (op_indexAddr_lb Tryd.underlying280 Tryd.sizeOf22 q0 qi (by decide)) <| ov [500, 4] (op_load_lbI (i := 6) [] [] 1 Tryd.isAgg22 q0 rfl rfl (by decide)) <| ov [0] (op_indexAddr_lb Tryd.underlying280 Tryd.sizeOf22 q0 qi (by decide)) <| ov [500, 4] (op_load_lbI (i := 7) [] [] 1 Tryd.isAgg22 q0 rfl rfl (by decide)) <| ov [514] (op_assign q0) <| ov [513] (op_assign q0) <| ov [512] (op_assign q0) <| ov [511] (op_assign q0) <| ov [510] (op_assign q0) <| ov [509] (op_assign q0) <| ov [508] (op_assign q0) <| ov [507] (op_assign q0) .nil) fun _ a w h => ?_
            refine wp_seq ?_
            refine regS mixed hn hG h [0, 1, 2, 3, 4, 5, 6, 7, 8, 9, 10, 11, 500, 12, 13, 14, 15] (ov [] (op_assign qi) .nil) fun _ a w h => ?_
            refine wp_block ?_
            obtain ⟨cr114, hl115, hF⟩ := bind_some hF
            refine wp_mono (wp_loopN (R := (List Int)) (S := Int × Int × Int × Int × Int × Int × Int × Int × Int) (fun s a w => SatL c [.slot 2 (lpVP (b1 0) 0), .slot 4 (lpVP (b1 1) 0), .slot 5 (lpVP (b5 1) 0), .slot 6 (lpVP (b6 0) 0), .slot 11 (intVP .u32 s.1), .slot 12 (intVP .u32 s.2.1), .slot 13 (intVP .u32 s.2.2.1), .slot 14 (intVP .u32 s.2.2.2.1), .slot 15 (intVP .u32 s.2.2.2.2.1), .slot 16 (intVP .u32 s.2.2.2.2.2.1), .slot 17 (intVP .u32 s.2.2.2.2.2.2.1), .slot 18 (intVP .u32 s.2.2.2.2.2.2.2.1), .slot 19 (intVP .i64 s.2.2.2.2.2.2.2.2), .res (lb (b1 0) 280 [intsCk .u32 8 a_0]), .res (lb (b1 1) 280 [intsCk .u32 8 (List.replicate 8 0)]), .res (lb (b5 1) 327 [intsCk .u32 64 r4]), .res (lb (b6 0) 327 [intsCk .u32 64 y72])] a w) (fun res e a w => match res with | .next s => e = .exit 4 ∧ SatL c [.slot 2 (lpVP (b1 0) 0), .slot 4 (lpVP (b1 1) 0), .slot 11 (intVP .u32 s.1), .slot 12 (intVP .u32 s.2.1), .slot 13 (intVP .u32 s.2.2.1), .slot 14 (intVP .u32 s.2.2.2.1), .slot 15 (intVP .u32 s.2.2.2.2.1), .slot 16 (intVP .u32 s.2.2.2.2.2.1), .slot 17 (intVP .u32 s.2.2.2.2.2.2.1), .slot 18 (intVP .u32 s.2.2.2.2.2.2.2.1), .res (lb (b1 0) 280 [intsCk .u32 8 a_0]), .res (lb (b1 1) 280 [intsCk .u32 8 (List.replicate 8 0)])] a w | .ret r => e = .ret ∧ RetOk Tryd.prog Tryd.f222 c (aggVP [intsCk .u32 8 r]) (fun _ => []) a w) ?_ _ (a_0.getD (0 : Int).toNat 0, a_0.getD (1 : Int).toNat 0, a_0.getD (2 : Int).toNat 0, a_0.getD (3 : Int).toNat 0, a_0.getD (4 : Int).toNat 0, a_0.getD (5 : Int).toNat 0, a_0.getD (6 : Int).toNat 0, a_0.getD (7 : Int).toNat 0, 0) _ _ _ (h.sub [0, 1, 2, 3, 4, 5, 6, 7, 8, 9, 10, 11, 12, 13, 14, 15, 16] (by rfl)) hl115) ?_
            · clear hl115 hF h
              intro s a w o h hF
              obtain ⟨x80, x81, x82, x83, x84, x85, x86, x87, x88⟩ := s
              change ref01_Block.b3 r4 y72 x80 x81 x82 x83 x84 x85 x86 x87 x88 = some o at hF
              unfold ref01_Block.b3 at hF
              change SatL c [.slot 2 (lpVP (b1 0) 0), .slot 4 (lpVP (b1 1) 0), .slot 5 (lpVP (b5 1) 0), .slot 6 (lpVP (b6 0) 0), .slot 11 (intVP .u32 x80), .slot 12 (intVP .u32 x81), .slot 13 (intVP .u32 x82), .slot 14 (intVP .u32 x83), .slot 15 (intVP .u32 x84), .slot 16 (intVP .u32 x85), .slot 17 (intVP .u32 x86), .slot 18 (intVP .u32 x87), .slot 19 (intVP .i64 x88), .res (lb (b1 0) 280 [intsCk .u32 8 a_0]), .res (lb (b1 1) 280 [intsCk .u32 8 (List.replicate 8 0)]), .res (lb (b5 1) 327 [intsCk .u32 64 r4]), .res (lb (b6 0) 327 [intsCk .u32 64 y72])] a w at h
              refine wp_seq ?_
              refine regS mixed hn hG h [0, 1, 2, 3, 4, 5, 6, 7, 8, 9, 10, 11, 12, 500, 13, 14, 15, 16] (ov [12] (op_move q0) <| ov [500] (op_bin bin_lss q0 qi) .nil) fun _ a w h => ?_
              refine cnd h hF 13 [0, 1, 2, 3, 4, 5, 6, 7, 8, 9, 10, 11, 12, 14, 15, 16, 17] [0, 1, 2, 3, 4, 5, 6, 7, 8, 9, 10, 11, 12, 14, 15, 16, 17] (fun hb106 hF h => ?_) (fun hb106 hF h => ?_)
              · refine wp_skip ?_
                show Code.wp Tryd.prog _ _ a w
                refine wp_seq ?_
                refine wp_block ?_
                obtain ⟨r107, hr107, hF⟩ := bind_some hF
                obtain ⟨r108, hr108, hF⟩ := bind_some hF
                obtain ⟨r109, hr109, hF⟩ := bind_some hF
                obtain ⟨hv110, hF⟩ := ite_some hF
                refine regS mixed hn hG h [0, 1, 2, 3, 4, 5, 6, 7, 8, 9, 10, 12, 500, 13, 14, 15, 16] (ov [11] (op_move q0) <| ov [8] (op_move q0) <| oc [500] [] Tryd.call232 (ref01_turn_ok hr107) ⟨q0, qi, trivial⟩ <| ov [8] (op_move q0) <| oc [500] [] Tryd.call232 (ref01_turn_ok hr108) ⟨q0, qi, trivial⟩ <| ov [502, 500] (op_bin bin_xor q0 q1) <| ov [8] (op_move q0) <| oc [500] [] Tryd.call232 (ref01_turn_ok hr109) ⟨q0, qi, trivial⟩ <| ov [502, 500] (op_bin bin_xor q0 q1) <| ov [508, 500] (op_bin bin_add q0 q1) <| ov [8] (op_move q0) <| ov [9] (op_move q0) <| ov [501, 500] (op_bin bin_and q0 q1) <| ov [8] (op_move q0) <| ov [500] (op_bin bin_xor qi q0) <| ov [10] (op_move q0) <| ov [501, 500] (op_bin bin_and q0 q1) <| ov [504, 500] (op_bin bin_xor q0 q1) <| ov [508, 500] (op_bin bin_add q0 q1) <| ov [12] (op_move q0) <| ov [2, 500] (op_indexAddr_lb Tryd.underlying327 Tryd.sizeOf22 q0 q1 hv110) <| ov [500, 15] (op_load_lbI (i := x88) [] [] 1 Tryd.isAgg22 q0 rfl rfl hv110) <| ov [503, 500] (op_bin bin_add q0 q1) <| ov [12] (op_move q0) <| ov [3, 500] (op_indexAddr_lb Tryd.underlying327 Tryd.sizeOf22 q0 q1 hv110) <| ov [500, 16] (op_load_lbI (i := x88) [] [] 1 Tryd.isAgg22 q0 rfl rfl hv110) <| ov [503, 500] (op_bin bin_add q0 q1) <| ov [500] (op_assign q0) .nil) fun _ a w h => ?_
                obtain ⟨r111, hr111, hF⟩ := bind_some hF
                obtain ⟨r112, hr112, hF⟩ := bind_some hF
                obtain ⟨r113, hr113, hF⟩ := bind_some hF
                refine regS mixed hn hG h [0, 1, 2, 3, 4, 5, 6, 7, 8, 9, 10, 11, 12, 500, 13, 14, 15, 16] (ov [4] (op_move q0) <| oc [500] [] Tryd.call232 (ref01_turn_ok hr111) ⟨q0, qi, trivial⟩ <| ov [4] (op_move q0) <| oc [500] [] Tryd.call232 (ref01_turn_ok hr112) ⟨q0, qi, trivial⟩ <| ov [502, 500] (op_bin bin_xor q0 q1) <| ov [4] (op_move q0) <| oc [500] [] Tryd.call232 (ref01_turn_ok hr113) ⟨q0, qi, trivial⟩ <| ov [502, 500] (op_bin bin_xor q0 q1) <| ov [4] (op_move q0) <| ov [5] (op_move q0) <| ov [501, 500] (op_bin bin_and q0 q1) <| ov [4] (op_move q0) <| ov [6] (op_move q0) <| ov [501, 500] (op_bin bin_and q0 q1) <| ov [503, 500] (op_bin bin_xor q0 q1) <| ov [5] (op_move q0) <| ov [6] (op_move q0) <| ov [501, 500] (op_bin bin_and q0 q1) <| ov [503, 500] (op_bin bin_xor q0 q1) <| ov [511, 500] (op_bin bin_add q0 q1) <| ov [500] (op_assign q0) .nil) fun _ a w h => ?_
                refine regS mixed hn hG h [0, 1, 2, 3, 4, 5, 6, 7, 8, 9, 500, 11, 12, 13, 14, 15, 16, 17] (ov [10] (op_move q0) <| ov [500] (op_assign q0) .nil) fun _ a w h => ?_
                refine regS mixed hn hG h [0, 1, 2, 3, 4, 5, 6, 7, 8, 500, 10, 11, 12, 13, 14, 15, 16, 17] (ov [9] (op_move q0) <| ov [500] (op_assign q0) .nil) fun _ a w h => ?_
                refine regS mixed hn hG h [0, 1, 2, 3, 4, 5, 6, 7, 500, 9, 10, 11, 12, 13, 14, 15, 16, 17] (ov [8] (op_move q0) <| ov [500] (op_assign q0) .nil) fun _ a w h => ?_
                refine regS mixed hn hG h [0, 1, 2, 3, 4, 5, 6, 500, 8, 9, 10, 11, 12, 13, 14, 15, 16, 17] (ov [7] (op_move q0) <| ov [12] (op_move q0) <| ov [501, 500] (op_bin bin_add q0 q1) <| ov [500] (op_assign q0) .nil) fun _ a w h => ?_
                refine regS mixed hn hG h [0, 1, 2, 3, 4, 5, 500, 7, 8, 9, 10, 11, 12, 13, 14, 15, 16, 17] (ov [6] (op_move q0) <| ov [500] (op_assign q0) .nil) fun _ a w h => ?_
                refine regS mixed hn hG h [0, 1, 2, 3, 4, 500, 6, 7, 8, 9, 10, 11, 12, 13, 14, 15, 16, 17] (ov [5] (op_move q0) <| ov [500] (op_assign q0) .nil) fun _ a w h => ?_
                refine regS mixed hn hG h [0, 1, 2, 3, 500, 5, 6, 7, 8, 9, 10, 11, 12, 13, 14, 15, 16, 17] (ov [4] (op_move q0) <| ov [500] (op_assign q0) .nil) fun _ a w h => ?_
                refine reg mixed hn hG h [0, 1, 2, 3, 500, 4, 5, 6, 7, 8, 9, 10, 11, 14, 15, 16, 17] (ov [12] (op_move q0) <| ov [13] (op_move q0) <| ov [501, 500] (op_bin bin_add q0 q1) <| ov [500] (op_assign q0) .nil) fun _ a w h => ?_
                show Code.wp Tryd.prog _ _ a w
                refine reg mixed hn hG h [0, 1, 2, 3, 4, 5, 6, 7, 8, 9, 10, 11, 500, 13, 14, 15, 16] (ov [12] (op_move q0) <| ov [500] (op_bin bin_add q0 qi) <| od [500] 12 (op_assign q0) .nil) fun _ a w h => ?_
                obtain rfl := Option.some.inj hF
                exact ⟨rfl, h.sub [0, 1, 2, 3, 4, 5, 6, 7, 8, 9, 10, 11, 12, 13, 14, 15, 16] (by rfl)⟩
              · refine wp_exit ?_
                obtain rfl := Option.some.inj hF
                exact ⟨exit_ne _, rfl, h.sub [0, 1, 4, 5, 6, 7, 8, 9, 10, 11, 13, 14] (by rfl)⟩
            · clear hl115
              intro e a w hq
              cases cr114 with
              | ret r116 =>
                obtain ⟨rfl, hq⟩ := hq
                obtain rfl := Option.some.inj hF
                exact ⟨.inl rfl, hq⟩
              | next s117 =>
                obtain ⟨y118, y119, y120, y121, y122, y123, y124, y125, y126⟩ := s117
                obtain ⟨rfl, h⟩ := hq
                change SatL c [.slot 2 (lpVP (b1 0) 0), .slot 4 (lpVP (b1 1) 0), .slot 11 (intVP .u32 y118), .slot 12 (intVP .u32 y119), .slot 13 (intVP .u32 y120), .slot 14 (intVP .u32 y121), .slot 15 (intVP .u32 y122), .slot 16 (intVP .u32 y123), .slot 17 (intVP .u32 y124), .slot 18 (intVP .u32 y125), .res (lb (b1 0) 280 [intsCk .u32 8 a_0]), .res (lb (b1 1) 280 [intsCk .u32 8 (List.replicate 8 0)])] a w at h
                refine inBlock_at ?_
                show Code.wp Tryd.prog _ _ a w
                refine regS mixed hn hG h [1, 500] (ov [0] (op_indexAddr_lb Tryd.underlying280 Tryd.sizeOf22 q0 qi (by decide)) <| ov [500, 10] (op_load_lbI (i := 0) [] [] 1 Tryd.isAgg22 q0 rfl rfl (by decide)) <| ov [2] (op_move q0) <| ov [501, 500] (op_bin bin_add q0 q1) <| ov [0] (op_indexAddr_lb Tryd.underlying280 Tryd.sizeOf22 q0 qi (by decide)) <| ov [500, 10] (op_load_lbI (i := 1) [] [] 1 Tryd.isAgg22 q0 rfl rfl (by decide)) <| ov [3] (op_move q0) <| ov [501, 500] (op_bin bin_add q0 q1) <| ov [0] (op_indexAddr_lb Tryd.underlying280 Tryd.sizeOf22 q0 qi (by decide)) <| ov [500, 10] (op_load_lbI (i := 2) [] [] 1 Tryd.isAgg22 q0 rfl rfl (by decide)) <| ov [4] (op_move q0) <| ov [501, 500] (op_bin bin_add q0 q1) <| ov [0] (op_indexAddr_lb Tryd.underlying280 Tryd.sizeOf22 q0 qi (by decide)) <| ov [500, 10] (op_load_lbI (i := 3) [] [] 1 Tryd.isAgg22 q0 rfl rfl (by decide)) <| ov [5] (op_move q0) <| ov [501, 500] (op_bin bin_add q0 q1) <| ov [0] (op_indexAddr_lb Tryd.underlying280 Tryd.sizeOf22 q0 qi (by decide)) <| ov [500, 10] (op_load_lbI (i := 4) [] [] 1 Tryd.isAgg22 q0 rfl rfl (by decide)) <| ov [6] (op_move q0) <| ov [501, 500] (op_bin bin_add q0 q1) <| ov [0] (op_indexAddr_lb Tryd.underlying280 Tryd.sizeOf22 q0 qi (by decide)) <| ov [500, 10] (op_load_lbI (i := 5) [] [] 1 Tryd.isAgg22 q0 rfl rfl (by decide)) <| ov [7] (op_move q0) <| ov [501, 500] (op_bin bin_add q0 q1) <| ov [0] (op_indexAddr_lb Tryd.underlying280 Tryd.sizeOf22 q0 qi (by decide)) <| ov [500, 10] (op_load_lbI (i := 6) [] [] 1 Tryd.isAgg22 q0 rfl rfl (by decide)) <| ov [8] (op_move q0) <| ov [501, 500] (op_bin bin_add q0 q1) <| ov [0] (op_indexAddr_lb Tryd.underlying280 Tryd.sizeOf22 q0 qi (by decide)) <| ov [500, 10] (op_load_lbI (i := 7) [] [] 1 Tryd.isAgg22 q0 rfl rfl (by decide)) <| ov [9] (op_move q0) <| ov [501, 500] (op_bin bin_add q0 q1) <| ov [528, 524, 520, 516, 512, 508, 504, 500] (op_buildI (xs := [.tmp 201, .tmp 205, .tmp 209, .tmp 213, .tmp 217, .tmp 221, .tmp 225, .tmp 229]) (ys := [IntKind.wrap .u32 ((a_0.getD (0 : Int).toNat 0) + y118), IntKind.wrap .u32 ((a_0.getD (1 : Int).toNat 0) + y119), IntKind.wrap .u32 ((a_0.getD (2 : Int).toNat 0) + y120), IntKind.wrap .u32 ((a_0.getD (3 : Int).toNat 0) + y121), IntKind.wrap .u32 ((a_0.getD (4 : Int).toNat 0) + y122), IntKind.wrap .u32 ((a_0.getD (5 : Int).toNat 0) + y123), IntKind.wrap .u32 ((a_0.getD (6 : Int).toNat 0) + y124), IntKind.wrap .u32 ((a_0.getD (7 : Int).toNat 0) + y125)]) rfl bu280 ⟨⟨_, q0, (cells_one (one_int _ _))⟩, ⟨_, q1, (cells_one (one_int _ _))⟩, ⟨_, q2, (cells_one (one_int _ _))⟩, ⟨_, q3, (cells_one (one_int _ _))⟩, ⟨_, (opt 4 rfl), (cells_one (one_int _ _))⟩, ⟨_, (opt 5 rfl), (cells_one (one_int _ _))⟩, ⟨_, (opt 6 rfl), (cells_one (one_int _ _))⟩, ⟨_, (opt 7 rfl), (cells_one (one_int _ _))⟩, trivial⟩ (by decide) rfl) <| ou [1, 500] 11 (op_store_w Tryd.sizeOf280 q0 q1 (cells_agg _)) .nil) fun _ a w h => ?_
                refine wp_ret ?_
                obtain rfl := Option.some.inj hF
                exact ⟨.inl rfl, ret1 h Tryd.results222 (r_cell 0 1 rfl rfl Tryd.isAgg280 Tryd.sizeOf280 rfl) [] [] rfl rfl rfl⟩

def ref01_After.b1 (x7 : List (UInt8)) (x8 : List Int) : Option (Flow ((List Int) × (List (UInt8))) ((List (UInt8)) × (List Int))) := (if (decide ((64 : Int) ≤ (x7.length : Int))) = true then (if (0 : Int) ≤ 0 ∧ (0 : Int) ≤ 64 ∧ (64 : Int) ≤ x7.length then ((ref01_Block x8 ((x7.take 64).drop (0 : Int).toNat)).bind fun r17 => (if (0 : Int) ≤ 64 ∧ (64 : Int) ≤ (x7.length : Int) ∧ (x7.length : Int) ≤ x7.length then some (.cont ((x7.take (x7.length : Int).toNat).drop 64, r17)) else none)) else none) else some (.brk (x7, x8)))
def ref01_After (a_0 : List Int) (a_1 : List (UInt8)) : Option ((List Int) × (List (UInt8))) := ((loopN (fun s : (List (UInt8)) × (List Int) => ref01_After.b1 s.1 s.2) (((a_1.length : Int) - 64 : Int).toNat + 2) (a_1, a_0)).bind fun cr => match cr with | .ret r => some r | .next (y23, y24) => some (y24, y23))
theorem ref01_After_ok {a_0 : List Int} {a_1 : List (UInt8)} {r : (List Int) × (List (UInt8))} (hF : ref01_After a_0 a_1 = some r) : CallOk Tryd.prog KG 194 [(aggVP [intsCk .u32 8 a_0]), (slVP bC a_1)] [] (fun _ => []) (tupVP [(aggVP [intsCk .u32 8 r.1]), (slVP bC r.2)]) := by
  refine CallOk.intro 17 Tryd.func194 rfl Tryd.ntmps194 (Nat.le_of_ble_eq_true rfl) ?_
  intro c a w hG hn h
  unfold ref01_After at hF
  change SatL c [.slot 0 (aggVP [intsCk .u32 8 a_0]), .slot 1 (slVP bC a_1)] a w at h
  refine regS mixed hn hG h [1, 504, 502, 503, 501] (ob [0] (op_box q0 (cells_agg _)) <| ob [] (op_alloc Tryd.zeroValue280 z280) <| ov [] (op_assign (opc (ec _))) .nil) fun b1 a w h => ?_
  refine wp_seq ?_
  refine wp_block ?_
  obtain ⟨cr19, hl20, hF⟩ := bind_some hF
  refine wp_mono (wp_loopN (R := (List Int) × (List (UInt8))) (S := (List (UInt8)) × (List Int)) (fun s a w => SatL c [.slot 1 (slVP bC s.1), .slot 2 (lpVP (b1 0) 0), .slot 4 (lpVP (b1 1) 0), .res (lb (b1 0) 280 [intsCk .u32 8 s.2]), .res (lb (b1 1) 280 [intsCk .u32 8 (List.replicate 8 0)])] a w) (fun res e a w => match res with | .next s => e = .exit 0 ∧ SatL c [.slot 1 (slVP bC s.1), .slot 2 (lpVP (b1 0) 0), .slot 4 (lpVP (b1 1) 0), .res (lb (b1 0) 280 [intsCk .u32 8 s.2]), .res (lb (b1 1) 280 [intsCk .u32 8 (List.replicate 8 0)])] a w | .ret r => e = .ret ∧ RetOk Tryd.prog Tryd.f194 c (tupVP [(aggVP [intsCk .u32 8 r.1]), (slVP bC r.2)]) (fun _ => []) a w) ?_ _ (a_1, a_0) _ _ _ (h.sub [0, 1, 2, 3, 4] (by rfl)) hl20) ?_
  · clear hl20 hF h
    intro s a w o h hF
    obtain ⟨x7, x8⟩ := s
    change ref01_After.b1 x7 x8 = some o at hF
    unfold ref01_After.b1 at hF
    change SatL c [.slot 1 (slVP bC x7), .slot 2 (lpVP (b1 0) 0), .slot 4 (lpVP (b1 1) 0), .res (lb (b1 0) 280 [intsCk .u32 8 x8]), .res (lb (b1 1) 280 [intsCk .u32 8 (List.replicate 8 0)])] a w at h
    refine wp_seq ?_
    refine regS mixed hn hG h [0, 1, 2, 500, 3, 4] (ov [0] (op_move q0) <| ov [500] (op_len_sl Tryd.underlying259 q0) <| ov [500] (op_bin bin_geq q0 qi) .nil) fun _ a w h => ?_
    refine cnd h hF 3 [0, 1, 2, 4, 5] [0, 1, 2, 4, 5] (fun hb15 hF h => ?_) (fun hb15 hF h => ?_)
    · refine wp_skip ?_
      show Code.wp Tryd.prog _ _ a w
      refine wp_block ?_
      obtain ⟨hv16, hF⟩ := ite_some hF
      obtain ⟨r17, hr17, hF⟩ := bind_some hF
      refine regS mixed hn hG h [0, 1, 2, 500, 4] (ov [1, 3] (op_load_w 1 Tryd.isAgg280 Tryd.sizeOf280 q0) <| ov [0] (op_move q0) <| ov [500] (op_slice_sl (a := 0) (b := 64) Tryd.underlying259 Tryd.sizeOf5 lens_bC q0 rfl ⟨_, qi⟩ hv16) <| oc [502, 500] [] Tryd.call222 (ref01_Block_ok hr17) ⟨q0, q1, trivial⟩ <| ou [1, 500] 3 (op_store_w Tryd.sizeOf280 q0 q1 (cells_agg _)) .nil) fun _ a w h => ?_
      obtain ⟨hv18, hF⟩ := ite_some hF
      refine reg mixed hn hG h [500, 1, 2, 3, 4] (ov [0] (op_move q0) <| ov [500] (op_slice_sl (a := 64) (b := (x7.length : Int)) Tryd.underlying259 Tryd.sizeOf5 lens_bC q0 ⟨_, qi⟩ rfl hv18) <| od [500] 0 (op_assign q0) .nil) fun _ a w h => ?_
      obtain rfl := Option.some.inj hF
      exact ⟨rfl, h.sub [0, 1, 2, 3, 4] (by rfl)⟩
    · refine wp_exit ?_
      obtain rfl := Option.some.inj hF
      exact ⟨exit_ne _, rfl, h.sub [0, 1, 2, 3, 4] (by rfl)⟩
  · clear hl20
    intro e a w hq
    cases cr19 with
    | ret r21 =>
      obtain ⟨rfl, hq⟩ := hq
      obtain rfl := Option.some.inj hF
      exact ⟨.inl rfl, hq⟩
    | next s22 =>
      obtain ⟨y23, y24⟩ := s22
      obtain ⟨rfl, h⟩ := hq
      change SatL c [.slot 1 (slVP bC y23), .slot 2 (lpVP (b1 0) 0), .slot 4 (lpVP (b1 1) 0), .res (lb (b1 0) 280 [intsCk .u32 8 y24]), .res (lb (b1 1) 280 [intsCk .u32 8 (List.replicate 8 0)])] a w at h
      refine inBlock_at ?_
      show Code.wp Tryd.prog _ _ a w
      refine regS mixed hn hG h [2, 500, 501] (ov [1, 3] (op_load_w 1 Tryd.isAgg280 Tryd.sizeOf280 q0) <| ov [0] (op_move q0) <| ou [2, 501] 4 (op_store_w Tryd.sizeOf280 q0 q1 (cells_agg _)) <| ov [501] (op_assign q0) .nil) fun _ a w h => ?_
      refine wp_ret ?_
      obtain rfl := Option.some.inj hF
      exact ⟨.inl rfl, retn h (rs := [.cell 4 280, .tmp 5]) (Vs := [(aggVP [intsCk .u32 8 y24]), (slVP bC y23)]) Tryd.results194 (by decide) ⟨(r_cell 0 2 rfl rfl Tryd.isAgg280 Tryd.sizeOf280 rfl), (r_tmp 1 rfl), trivial⟩ [] [] rfl rfl rfl⟩

def ref01_First : Option (List Int) := some ([1779033703, 3144134277, 1013904242, 2773480762, 1359893119, 2600822924, 528734635, 1541459225] ++ List.replicate (8 - 8) 0)
theorem ref01_First_ok {r : (List Int)} (hF : ref01_First = some r) : CallOk Tryd.prog KG 195 [] [] (fun _ => []) (aggVP [intsCk .u32 8 r]) := by
  refine CallOk.intro 2 Tryd.func195 rfl Tryd.ntmps195 (Nat.le_of_ble_eq_true rfl) ?_
  intro c a w hG hn h
  unfold ref01_First at hF
  change SatL c [] a w at h
  refine regS mixed hn hG h [501, 500] (ob [] (op_alloc Tryd.zeroValue280 z280) .nil) fun b1 a w h => ?_
  refine regS mixed hn hG h [0, 500] (ov [] (op_buildI (xs := [.const (.int .u32 1779033703), .const (.int .u32 3144134277), .const (.int .u32 1013904242), .const (.int .u32 2773480762), .const (.int .u32 1359893119), .const (.int .u32 2600822924), .const (.int .u32 528734635), .const (.int .u32 1541459225)]) (ys := [1779033703, 3144134277, 1013904242, 2773480762, 1359893119, 2600822924, 528734635, 1541459225]) rfl bu280 ⟨⟨_, qi, (cells_one (one_int _ _))⟩, ⟨_, qi, (cells_one (one_int _ _))⟩, ⟨_, qi, (cells_one (one_int _ _))⟩, ⟨_, qi, (cells_one (one_int _ _))⟩, ⟨_, qi, (cells_one (one_int _ _))⟩, ⟨_, qi, (cells_one (one_int _ _))⟩, ⟨_, qi, (cells_one (one_int _ _))⟩, ⟨_, qi, (cells_one (one_int _ _))⟩, trivial⟩ (by decide) rfl) <| ou [0, 500] 1 (op_store_w Tryd.sizeOf280 q0 q1 (cells_agg _)) .nil) fun _ a w h => ?_
  refine wp_ret ?_
  obtain rfl := Option.some.inj hF
  exact ⟨.inl rfl, ret1 h Tryd.results195 (r_cell 0 1 rfl rfl Tryd.isAgg280 Tryd.sizeOf280 rfl) [] [] rfl rfl rfl⟩

def ref01_End.b1 (x11 : List (UInt8)) : Option (Flow (List UInt8) (List (UInt8))) := (if (!decide (((x11.length : Int).tmod 64) = (56 : Int))) = true then (if x11.length + [u8of 0].length ≤ mxl ∧ (x11.length + [u8of 0].length) * 1 ≤ 140737488355328 then some (.cont (x11 ++ [u8of 0])) else none) else some (.brk x11))
def ref01_End.b2 (a_2 : Int) (x29 : Int) (x30 : List (UInt8)) : Option (Flow (List UInt8) (Int × (List (UInt8)))) := (if (decide (x29 < (8 : Int))) = true then (if x30.length + [u8of (IntKind.wrap .u8 (shr .u64 (IntKind.wrap .u64 (8 * a_2)) (IntKind.wrap .u64 (IntKind.wrap .i64 (56 - (IntKind.wrap .i64 (8 * x29)))))))].length ≤ mxl ∧ (x30.length + [u8of (IntKind.wrap .u8 (shr .u64 (IntKind.wrap .u64 (8 * a_2)) (IntKind.wrap .u64 (IntKind.wrap .i64 (56 - (IntKind.wrap .i64 (8 * x29)))))))].length) * 1 ≤ 140737488355328 then some (.cont (IntKind.wrap .i64 (x29 + 1), x30 ++ [u8of (IntKind.wrap .u8 (shr .u64 (IntKind.wrap .u64 (8 * a_2)) (IntKind.wrap .u64 (IntKind.wrap .i64 (56 - (IntKind.wrap .i64 (8 * x29)))))))])) else none) else some (.brk (x29, x30)))
def ref01_End.b3 (r47 : (List Int) × (List (UInt8))) (x51 : Int) (x52 : List UInt8) : Option (Flow (List UInt8) (Int × (List UInt8))) := (if (decide (x51 < (32 : Int))) = true then (if (0 : Int) ≤ IntKind.wrap .i64 (x51.tdiv 4) ∧ IntKind.wrap .i64 (x51.tdiv 4) < 8 then (if (0 : Int) ≤ x51 ∧ x51 < 32 then some (.cont (IntKind.wrap .i64 (x51 + 1), x52.set x51.toNat (u8of (IntKind.wrap .u8 (shr .u32 (r47.1.getD (IntKind.wrap .i64 (x51.tdiv 4)).toNat 0) (IntKind.wrap .u64 (IntKind.wrap .i64 (24 - (IntKind.wrap .i64 (8 * (x51.tmod 4))))))))))) else none) else none) else some (.brk (x51, x52)))
def ref01_End (a_0 : List Int) (a_1 : List (UInt8)) (a_2 : Int) : Option (List UInt8) := (if ([] : List UInt8).length + a_1.length ≤ mxl ∧ (([] : List UInt8).length + a_1.length) * 1 ≤ 140737488355328 then (if (([] : List UInt8) ++ a_1).length + [u8of 128].length ≤ mxl ∧ ((([] : List UInt8) ++ a_1).length + [u8of 128].length) * 1 ≤ 140737488355328 then ((loopN (fun s : (List (UInt8)) => ref01_End.b1 s) 100000 ((([] : List UInt8) ++ a_1) ++ [u8of 128])).bind fun cr => match cr with | .ret r => some r | .next y25 => ((loopN (fun s : Int × (List (UInt8)) => ref01_End.b2 a_2 s.1 s.2) ((8 - 0 : Int).toNat + 2) (0, y25)).bind fun cr => match cr with | .ret r => some r | .next (y45, y46) => ((ref01_After a_0 y46).bind fun r47 => ((loopN (fun s : Int × (List UInt8) => ref01_End.b3 r47 s.1 s.2) ((32 - 0 : Int).toNat + 2) (0, (List.replicate 32 0))).bind fun cr => match cr with | .ret r => some r | .next (y65, y66) => some y66)))) else none) else none)
theorem ref01_End_ok {a_0 : List Int} {a_1 : List (UInt8)} {a_2 : Int} {r : (List UInt8)} (hF : ref01_End a_0 a_1 a_2 = some r) : CallOk Tryd.prog KG 196 [(aggVP [intsCk .u32 8 a_0]), (slVP bC a_1), (intVP .u64 a_2)] [] (fun _ => []) (aggVP [bytesCk 32 r]) := by
  refine CallOk.intro 65 Tryd.func196 rfl Tryd.ntmps196 (Nat.le_of_ble_eq_true rfl) ?_
  intro c a w hG hn h
  unfold ref01_End at hF
  change SatL c [.slot 0 (aggVP [intsCk .u32 8 a_0]), .slot 1 (slVP bC a_1), .slot 2 (intVP .u64 a_2)] a w at h
  refine regS mixed hn hG h [1, 2, 503, 501, 502, 500] (ob [0] (op_box q0 (cells_agg _)) <| ob [] (op_alloc Tryd.zeroValue25 z25) .nil) fun b1 a w h => ?_
  refine regS mixed hn hG h [0, 1, 2, 3, 500, 4, 5] (ov [] (op_assign (opc (ec _))) .nil) fun _ a w h => ?_
  obtain ⟨q3, h⟩ : ∃ q3 : Value, SatL c [.slot 1 (slVP bC a_1), .slot 2 (intVP .u64 a_2), .slot 3 (lpVP (b1 0) 0), .slot 6 (lpVP (b1 1) 0), .slot 7 (eqVP q3), .res (lb (b1 0) 280 [intsCk .u32 8 a_0]), .res (lb (b1 1) 25 [bytesCk 32 (List.replicate 32 0)]), .res (acc q3 5 1 bC ([] : List UInt8))] a w := ⟨.slice none 0 0, (h.nilacc 5 1 bC).sub [0, 1, 2, 3, 4, 5, 6, 7] (by rfl)⟩
  obtain ⟨hv4, hF⟩ := ite_some hF
  refine regS mixed hn hG h [1, 2, 3, 500, 5, 6, 501] (ov [4] (op_move q0) <| ov [0] (op_move q0) <| og [501, 500] [7] [.slot 14 2 100000 (fun v1_ _ => (eqVP v1_)), .res 2 100000 (fun v1_ _ => (acc (v1_) 5 1 bC (([] : List UInt8) ++ a_1)))] (GOk.plain (op_append (i := Tryd.t5) Tryd.underlying259 Tryd.type5 rfl lens_bC (by decide) rfl q0 q1 hv4) rfl) <| og [501] [4] [.slot 7 2 100000 (fun v1_ _ => (eqVP v1_))] (fun {β} => (GOk.drop _ (GOk.plain (op_assign (V := (eqVP (β 2))) q0) rfl))) .nil) fun b5 a w h => ?_
  obtain ⟨hv6, hF⟩ := ite_some hF
  refine regS mixed hn hG h [0, 1, 2, 500, 4, 5, 501] (ov [3] (op_move q0) <| ov [] (op_lit (xs := [.const (.int .u8 128)]) (ys := [u8of 128]) _ rfl Tryd.underlying259 Tryd.sizeOf5 Tryd.zeroValue5 rfl rfl (by decide) (by decide) ⟨⟨_, qi, (cells_u8 _)⟩, trivial⟩ lens_bC) <| og [501, 500] [6] [.slot 17 2 100000 (fun v1_ _ => (eqVP v1_)), .res 2 100000 (fun v1_ _ => (acc (v1_) 5 1 bC ((([] : List UInt8) ++ a_1) ++ [u8of 128])))] (GOk.plain (op_append (i := Tryd.t5) Tryd.underlying259 Tryd.type5 rfl lens_bC (by decide) rfl q0 q1 hv6) rfl) <| og [501] [3] [.slot 7 2 100000 (fun v1_ _ => (eqVP v1_))] (fun {β} => (GOk.drop _ (GOk.plain (op_assign (V := (eqVP (β 2))) q0) rfl))) .nil) fun b7 a w h => ?_
  refine wp_seq ?_
  refine wp_block ?_
  obtain ⟨cr21, hl22, hF⟩ := bind_some hF
  refine wp_mono (wp_loopN (R := (List UInt8)) (S := (List (UInt8))) (fun s a w => ∃ q12 : Value, SatL c [.slot 2 (intVP .u64 a_2), .slot 3 (lpVP (b1 0) 0), .slot 6 (lpVP (b1 1) 0), .slot 7 (eqVP q12), .res (lb (b1 0) 280 [intsCk .u32 8 a_0]), .res (lb (b1 1) 25 [bytesCk 32 (List.replicate 32 0)]), .res (acc q12 5 1 bC s)] a w) (fun res e a w => match res with | .next s => e = .exit 0 ∧ ∃ q12 : Value, SatL c [.slot 2 (intVP .u64 a_2), .slot 3 (lpVP (b1 0) 0), .slot 6 (lpVP (b1 1) 0), .slot 7 (eqVP q12), .res (lb (b1 0) 280 [intsCk .u32 8 a_0]), .res (lb (b1 1) 25 [bytesCk 32 (List.replicate 32 0)]), .res (acc q12 5 1 bC s)] a w | .ret r => e = .ret ∧ RetOk Tryd.prog Tryd.f196 c (aggVP [bytesCk 32 r]) (fun _ => []) a w) ?_ _ ((([] : List UInt8) ++ a_1) ++ [u8of 128]) _ _ _ ⟨(b7 2), (h.sub [0, 1, 2, 3, 4, 5, 6] (by rfl))⟩ hl22) ?_
  · clear hl22 hF h
    intro x11 a w o h hF
    obtain ⟨q12, h⟩ := h
    change ref01_End.b1 x11 = some o at hF
    unfold ref01_End.b1 at hF
    change SatL c [.slot 2 (intVP .u64 a_2), .slot 3 (lpVP (b1 0) 0), .slot 6 (lpVP (b1 1) 0), .slot 7 (eqVP q12), .res (lb (b1 0) 280 [intsCk .u32 8 a_0]), .res (lb (b1 1) 25 [bytesCk 32 (List.replicate 32 0)]), .res (acc q12 5 1 bC x11)] a w at h
    refine wp_seq ?_
    refine regS mixed hn hG h [0, 1, 2, 3, 500, 4, 5, 6] (ov [3] (op_move q0) <| ov [500, 6] (op_len_sl Tryd.underlying259 (opacc 0 1 rfl rfl)) <| ov [500] (op_bin (bin_rem (by decide)) q0 qi) <| ov [500] (op_bin bin_neq q0 qi) .nil) fun _ a w h => ?_
    refine cnd h hF 4 [0, 1, 2, 3, 5, 6, 7] [0, 1, 2, 3, 5, 6, 7] (fun hb18 hF h => ?_) (fun hb18 hF h => ?_)
    · refine wp_skip ?_
      show Code.wp Tryd.prog _ _ a w
      refine wp_block ?_
      obtain ⟨hv19, hF⟩ := ite_some hF
      refine reg mixed hn hG h [0, 1, 2, 500, 4, 5, 501] (ov [3] (op_move q0) <| ov [] (op_lit (xs := [.const (.int .u8 0)]) (ys := [u8of 0]) _ rfl Tryd.underlying259 Tryd.sizeOf5 Tryd.zeroValue5 rfl rfl (by decide) (by decide) ⟨⟨_, qi, (cells_u8 _)⟩, trivial⟩ lens_bC) <| og [501, 500] [6] [.slot 24 2 100000 (fun v1_ _ => (eqVP v1_)), .res 2 100000 (fun v1_ _ => (acc (v1_) 5 1 bC (x11 ++ [u8of 0])))] (GOk.plain (op_append (i := Tryd.t5) Tryd.underlying259 Tryd.type5 rfl lens_bC (by decide) rfl q0 q1 hv19) rfl) <| og [501] [3] [.slot 7 2 100000 (fun v1_ _ => (eqVP v1_))] (fun {β} => (GOk.drop _ (GOk.plain (op_assign (V := (eqVP (β 2))) q0) rfl))) .nil) fun b20 a w h => ?_
      obtain rfl := Option.some.inj hF
      exact ⟨rfl, (b20 2), h.sub [0, 1, 2, 3, 4, 5, 6] (by rfl)⟩
    · refine wp_exit ?_
      obtain rfl := Option.some.inj hF
      exact ⟨exit_ne _, rfl, q12, h.sub [0, 1, 2, 3, 4, 5, 6] (by rfl)⟩
  · clear hl22
    intro e a w hq
    cases cr21 with
    | ret r23 =>
      obtain ⟨rfl, hq⟩ := hq
      obtain rfl := Option.some.inj hF
      exact ⟨.inl rfl, hq⟩
    | next y25 =>
      obtain ⟨rfl, q12, h⟩ := hq
      change SatL c [.slot 2 (intVP .u64 a_2), .slot 3 (lpVP (b1 0) 0), .slot 6 (lpVP (b1 1) 0), .slot 7 (eqVP q12), .res (lb (b1 0) 280 [intsCk .u32 8 a_0]), .res (lb (b1 1) 25 [bytesCk 32 (List.replicate 32 0)]), .res (acc q12 5 1 bC y25)] a w at h
      refine inBlock_at ?_
      show Code.wp Tryd.prog _ _ a w
      refine regS mixed hn hG h [1, 2, 3, 500, 4, 5, 6] (ov [0] (op_move q0) <| ov [500] (op_bin bin_mul qi q0) <| ov [500] (op_assign q0) .nil) fun _ a w h => ?_
      refine wp_seq ?_
      refine regS mixed hn hG h [0, 1, 2, 3, 500, 4, 5, 6] (ov [] (op_assign qi) .nil) fun _ a w h => ?_
      refine wp_block ?_
      obtain ⟨cr41, hl42, hF⟩ := bind_some hF
      refine wp_mono (wp_loopN (R := (List UInt8)) (S := Int × (List (UInt8))) (fun s a w => ∃ q31 : Value, SatL c [.slot 3 (lpVP (b1 0) 0), .slot 6 (lpVP (b1 1) 0), .slot 7 (eqVP q31), .slot 8 (intVP .u64 (IntKind.wrap .u64 (8 * a_2))), .slot 9 (intVP .i64 s.1), .res (lb (b1 0) 280 [intsCk .u32 8 a_0]), .res (lb (b1 1) 25 [bytesCk 32 (List.replicate 32 0)]), .res (acc q31 5 1 bC s.2)] a w) (fun res e a w => match res with | .next s => e = .exit 2 ∧ ∃ q31 : Value, SatL c [.slot 3 (lpVP (b1 0) 0), .slot 6 (lpVP (b1 1) 0), .slot 7 (eqVP q31), .res (lb (b1 0) 280 [intsCk .u32 8 a_0]), .res (lb (b1 1) 25 [bytesCk 32 (List.replicate 32 0)]), .res (acc q31 5 1 bC s.2)] a w | .ret r => e = .ret ∧ RetOk Tryd.prog Tryd.f196 c (aggVP [bytesCk 32 r]) (fun _ => []) a w) ?_ _ (0, y25) _ _ _ ⟨q12, (h.sub [0, 1, 2, 3, 4, 5, 6, 7] (by rfl))⟩ hl42) ?_
      · clear hl42 hF h
        intro s a w o h hF
        obtain ⟨x29, x30⟩ := s
        obtain ⟨q31, h⟩ := h
        change ref01_End.b2 a_2 x29 x30 = some o at hF
        unfold ref01_End.b2 at hF
        change SatL c [.slot 3 (lpVP (b1 0) 0), .slot 6 (lpVP (b1 1) 0), .slot 7 (eqVP q31), .slot 8 (intVP .u64 (IntKind.wrap .u64 (8 * a_2))), .slot 9 (intVP .i64 x29), .res (lb (b1 0) 280 [intsCk .u32 8 a_0]), .res (lb (b1 1) 25 [bytesCk 32 (List.replicate 32 0)]), .res (acc q31 5 1 bC x30)] a w at h
        refine wp_seq ?_
        refine regS mixed hn hG h [0, 1, 2, 3, 4, 500, 5, 6, 7] (ov [4] (op_move q0) <| ov [500] (op_bin bin_lss q0 qi) .nil) fun _ a w h => ?_
        refine cnd h hF 5 [0, 1, 2, 3, 4, 6, 7, 8] [0, 1, 2, 3, 4, 6, 7, 8] (fun hb38 hF h => ?_) (fun hb38 hF h => ?_)
        · refine wp_skip ?_
          show Code.wp Tryd.prog _ _ a w
          refine wp_seq ?_
          refine wp_block ?_
          obtain ⟨hv39, hF⟩ := ite_some hF
          refine reg mixed hn hG h [0, 1, 500, 3, 4, 5, 6, 501] (ov [2] (op_move q0) <| ov [3] (op_move q0) <| ov [4] (op_move q0) <| ov [500] (op_bin bin_mul qi q0) <| ov [500] (op_bin bin_sub qi q0) <| ov [500] (op_convert_int Tryd.underlying3 Tryd.underlying295 q0) <| ov [504, 500] (op_bin (bin_shru rfl) q0 q1) <| ov [500] (op_convert_int Tryd.underlying27 Tryd.underlying5 q0) <| ov [500] (op_lit (xs := [.tmp 38]) (ys := [u8of (IntKind.wrap .u8 (shr .u64 (IntKind.wrap .u64 (8 * a_2)) (IntKind.wrap .u64 (IntKind.wrap .i64 (56 - (IntKind.wrap .i64 (8 * x29)))))))]) _ rfl Tryd.underlying259 Tryd.sizeOf5 Tryd.zeroValue5 rfl rfl (by decide) (by decide) ⟨⟨_, q0, (cells_u8 _)⟩, trivial⟩ lens_bC) <| og [508, 500] [7] [.slot 40 9 100000 (fun v1_ _ => (eqVP v1_)), .res 9 100000 (fun v1_ _ => (acc (v1_) 5 1 bC (x30 ++ [u8of (IntKind.wrap .u8 (shr .u64 (IntKind.wrap .u64 (8 * a_2)) (IntKind.wrap .u64 (IntKind.wrap .i64 (56 - (IntKind.wrap .i64 (8 * x29)))))))])))] (GOk.plain (op_append (i := Tryd.t5) Tryd.underlying259 Tryd.type5 rfl lens_bC (by decide) rfl q0 q1 hv39) rfl) <| og [501] [2] [.slot 7 9 100000 (fun v1_ _ => (eqVP v1_))] (fun {β} => (GOk.drop _ (GOk.plain (op_assign (V := (eqVP (β 9))) q0) rfl))) .nil) fun b40 a w h => ?_
          show Code.wp Tryd.prog _ _ a w
          refine reg mixed hn hG h [0, 1, 2, 3, 500, 5, 6, 7] (ov [4] (op_move q0) <| ov [500] (op_bin bin_add q0 qi) <| od [500] 4 (op_assign q0) .nil) fun _ a w h => ?_
          obtain rfl := Option.some.inj hF
          exact ⟨rfl, (b40 9), h.sub [0, 1, 2, 3, 4, 5, 6, 7] (by rfl)⟩
        · refine wp_exit ?_
          obtain rfl := Option.some.inj hF
          exact ⟨exit_ne _, rfl, q31, h.sub [0, 1, 2, 5, 6, 7] (by rfl)⟩
      · clear hl42
        intro e a w hq
        cases cr41 with
        | ret r43 =>
          obtain ⟨rfl, hq⟩ := hq
          obtain rfl := Option.some.inj hF
          exact ⟨.inl rfl, hq⟩
        | next s44 =>
          obtain ⟨y45, y46⟩ := s44
          obtain ⟨rfl, q31, h⟩ := hq
          change SatL c [.slot 3 (lpVP (b1 0) 0), .slot 6 (lpVP (b1 1) 0), .slot 7 (eqVP q31), .res (lb (b1 0) 280 [intsCk .u32 8 a_0]), .res (lb (b1 1) 25 [bytesCk 32 (List.replicate 32 0)]), .res (acc q31 5 1 bC y46)] a w at h
          refine inBlock_at ?_
          show Code.wp Tryd.prog _ _ a w
          obtain ⟨r47, hr47, hF⟩ := bind_some hF
          refine regS mixed hn hG h [0, 1, 500, 4] (ov [0, 3] (op_load_w 1 Tryd.isAgg280 Tryd.sizeOf280 q0) <| ov [2] (op_move q0) <| oc [501, 500, 5] [] Tryd.call194 (ref01_After_ok hr47) ⟨q0, (opacc 1 2 rfl rfl), trivial⟩ <| ov [500] (op_move q0) <| ov [500] (op_extract q0 rfl) <| ov [501] (op_extract q0 rfl) <| ou [0, 501] 3 (op_store_w Tryd.sizeOf280 q0 q1 (cells_agg _)) .nil) fun _ a w h => ?_
          refine regS mixed hn hG h [0, 1, 501, 2, 3, 500] (ob [] (op_alloc Tryd.zeroValue25 z25) .nil) fun b48 a w h => ?_
          refine wp_seq ?_
          refine regS mixed hn hG h [0, 1, 2, 500, 3, 4, 5] (ov [] (op_assign qi) .nil) fun _ a w h => ?_
          refine wp_block ?_
          obtain ⟨cr61, hl62, hF⟩ := bind_some hF
          refine wp_mono (wp_loopN (R := (List UInt8)) (S := Int × (List UInt8)) (fun s a w => SatL c [.slot 3 (lpVP (b1 0) 0), .slot 6 (lpVP (b1 1) 0), .slot 10 (lpVP (b48 0) 0), .slot 11 (intVP .i64 s.1), .res (lb (b1 0) 280 [intsCk .u32 8 r47.1]), .res (lb (b1 1) 25 [bytesCk 32 (List.replicate 32 0)]), .res (lb (b48 0) 25 [bytesCk 32 s.2])] a w) (fun res e a w => match res with | .next s => e = .exit 4 ∧ SatL c [.slot 6 (lpVP (b1 1) 0), .slot 10 (lpVP (b48 0) 0), .res (lb (b1 1) 25 [bytesCk 32 (List.replicate 32 0)]), .res (lb (b48 0) 25 [bytesCk 32 s.2])] a w | .ret r => e = .ret ∧ RetOk Tryd.prog Tryd.f196 c (aggVP [bytesCk 32 r]) (fun _ => []) a w) ?_ _ (0, (List.replicate 32 0)) _ _ _ (h.sub [0, 1, 2, 3, 4, 5, 6] (by rfl)) hl62) ?_
          · clear hl62 hF h
            intro s a w o h hF
            obtain ⟨x51, x52⟩ := s
            change ref01_End.b3 r47 x51 x52 = some o at hF
            unfold ref01_End.b3 at hF
            change SatL c [.slot 3 (lpVP (b1 0) 0), .slot 6 (lpVP (b1 1) 0), .slot 10 (lpVP (b48 0) 0), .slot 11 (intVP .i64 x51), .res (lb (b1 0) 280 [intsCk .u32 8 r47.1]), .res (lb (b1 1) 25 [bytesCk 32 (List.replicate 32 0)]), .res (lb (b48 0) 25 [bytesCk 32 x52])] a w at h
            refine wp_seq ?_
            refine regS mixed hn hG h [0, 1, 2, 3, 500, 4, 5, 6] (ov [3] (op_move q0) <| ov [500] (op_bin bin_lss q0 qi) .nil) fun _ a w h => ?_
            refine cnd h hF 4 [0, 1, 2, 3, 5, 6, 7] [0, 1, 2, 3, 5, 6, 7] (fun hb58 hF h => ?_) (fun hb58 hF h => ?_)
            · refine wp_skip ?_
              show Code.wp Tryd.prog _ _ a w
              refine wp_seq ?_
              refine wp_block ?_
              obtain ⟨hv59, hF⟩ := ite_some hF
              obtain ⟨hv60, hF⟩ := ite_some hF
              refine reg mixed hn hG h [0, 1, 2, 3, 4, 5, 500] (ov [3] (op_move q0) <| ov [3] (op_move q0) <| ov [500] (op_bin (bin_quo (by decide)) q0 qi) <| ov [0, 500] (op_indexAddr_lb Tryd.underlying280 Tryd.sizeOf22 q0 q1 hv59) <| ov [500, 4] (op_load_lbI (i := IntKind.wrap .i64 (x51.tdiv 4)) [] [] 1 Tryd.isAgg22 q0 rfl rfl hv59) <| ov [3] (op_move q0) <| ov [500] (op_bin (bin_rem (by decide)) q0 qi) <| ov [500] (op_bin bin_mul qi q0) <| ov [500] (op_bin bin_sub qi q0) <| ov [500] (op_convert_int Tryd.underlying3 Tryd.underlying295 q0) <| ov [505, 500] (op_bin (bin_shru rfl) q0 q1) <| ov [500] (op_convert_int Tryd.underlying22 Tryd.underlying5 q0) <| ov [2, 511] (op_indexAddr_lb Tryd.underlying25 Tryd.sizeOf5 q0 q1 hv60) <| ou [500, 501] 6 (op_store_lbB (i := x51) [] [] Tryd.sizeOf5 q0 q1 rfl hv60) .nil) fun _ a w h => ?_
              show Code.wp Tryd.prog _ _ a w
              refine reg mixed hn hG h [0, 1, 2, 500, 4, 5, 6] (ov [3] (op_move q0) <| ov [500] (op_bin bin_add q0 qi) <| od [500] 3 (op_assign q0) .nil) fun _ a w h => ?_
              obtain rfl := Option.some.inj hF
              exact ⟨rfl, h.sub [0, 1, 2, 3, 4, 5, 6] (by rfl)⟩
            · refine wp_exit ?_
              obtain rfl := Option.some.inj hF
              exact ⟨exit_ne _, rfl, h.sub [1, 2, 5, 6] (by rfl)⟩
          · clear hl62
            intro e a w hq
            cases cr61 with
            | ret r63 =>
              obtain ⟨rfl, hq⟩ := hq
              obtain rfl := Option.some.inj hF
              exact ⟨.inl rfl, hq⟩
            | next s64 =>
              obtain ⟨y65, y66⟩ := s64
              obtain ⟨rfl, h⟩ := hq
              change SatL c [.slot 6 (lpVP (b1 1) 0), .slot 10 (lpVP (b48 0) 0), .res (lb (b1 1) 25 [bytesCk 32 (List.replicate 32 0)]), .res (lb (b48 0) 25 [bytesCk 32 y66])] a w at h
              refine inBlock_at ?_
              show Code.wp Tryd.prog _ _ a w
              refine regS mixed hn hG h [0, 500] (ov [1, 3] (op_load_w 1 Tryd.isAgg25 Tryd.sizeOf25 q0) <| ou [0, 500] 2 (op_store_w Tryd.sizeOf25 q0 q1 (cells_agg _)) .nil) fun _ a w h => ?_
              refine wp_ret ?_
              obtain rfl := Option.some.inj hF
              exact ⟨.inl rfl, ret1 h Tryd.results196 (r_cell 0 1 rfl rfl Tryd.isAgg25 Tryd.sizeOf25 rfl) [] [] rfl rfl rfl⟩

def ref01_Sum (a_0 : List UInt8) : Option (List UInt8) := ((ref01_First).bind fun r2 => ((ref01_After r2 a_0).bind fun r3 => ((ref01_End r3.1 r3.2 (IntKind.wrap .u64 (a_0.length : Int))).bind fun r5 => some r5)))
theorem ref01_Sum_ok {a_0 : List UInt8} {r : (List UInt8)} (hF : ref01_Sum a_0 = some r) : CallOk Tryd.prog KG 145 [(strVP a_0)] [] (fun _ => []) (aggVP [bytesCk 32 r]) := by
  refine CallOk.intro 18 Tryd.func145 rfl Tryd.ntmps145 (Nat.le_of_ble_eq_true rfl) ?_
  intro c a w hG hn h
  unfold ref01_Sum at hF
  change SatL c [.slot 0 (strVP a_0)] a w at h
  refine regS mixed hn hG h [0, 501, 500] (ob [] (op_alloc Tryd.zeroValue25 z25) .nil) fun b1 a w h => ?_
  obtain ⟨r2, hr2, hF⟩ := bind_some hF
  obtain ⟨r3, hr3, hF⟩ := bind_some hF
  refine regS mixed hn hG h [0, 1, 503, 500, 2, 501] (oc [] [] Tryd.call195 (ref01_First_ok hr2) trivial <| ov [0] (op_move q0) <| ov [500] (op_conv_str_sl Tryd.underlying9 Tryd.underlying259 Tryd.underlying5 q0) <| oc [502, 500] [] Tryd.call194 (ref01_After_ok hr3) ⟨q0, q1, trivial⟩ <| ov [500] (op_move q0) <| ov [500] (op_extract q0 rfl) <| ov [501] (op_extract q0 rfl) <| ob [] (op_alloc Tryd.zeroValue280 z280) <| og [501, 503] [500] [.res 7 100000 (fun v1_ _ => (lb (v1_) 280 [intsCk .u32 8 r3.1]))] (GOk.plain (op_store_w Tryd.sizeOf280 q0 q1 (cells_agg _)) rfl) <| ov [503] (op_assign q0) .nil) fun b4 a w h => ?_
  obtain ⟨r5, hr5, hF⟩ := bind_some hF
  refine regS mixed hn hG h [1, 500] (ov [2, 5] (op_load_w 1 Tryd.isAgg280 Tryd.sizeOf280 q0) <| ov [3] (op_move q0) <| ov [0] (op_move q0) <| ov [500] (op_len_str Tryd.underlying9 q0) <| ov [500] (op_convert_int Tryd.underlying3 Tryd.underlying27 q0) <| oc [504, 503, 500] [] Tryd.call196 (ref01_End_ok hr5) ⟨q0, q1, q2, trivial⟩ <| ou [1, 500] 4 (op_store_w Tryd.sizeOf25 q0 q1 (cells_agg _)) .nil) fun _ a w h => ?_
  refine wp_ret ?_
  obtain rfl := Option.some.inj hF
  exact ⟨.inl rfl, ret1 h Tryd.results145 (r_cell 0 1 rfl rfl Tryd.isAgg25 Tryd.sizeOf25 rfl) [] [] rfl rfl rfl⟩

def ref04_Log_Note.n (a_1 : List UInt8) (a_2 : List UInt8) : Option (Option O_RLog) := some none
def ref04_Log_Note.b1 (s_0 : O_RLog) (a_1 : List UInt8) (a_2 : List UInt8) (x8 : Int) : Option (Flow (Option O_RLog) Int) := (if (decide (x8 < (((lkp a_1 s_0.f_Digests).getD []).length : Int))) = true then (if (0 : Int) ≤ x8 ∧ x8 < ((lkp a_1 s_0.f_Digests).getD []).length then (if (decide ((((lkp a_1 s_0.f_Digests).getD []).getD x8.toNat default) = a_2)) = true then some (.ret (some s_0)) else some (.cont (IntKind.wrap .i64 (x8 + 1)))) else none) else some (.brk x8))
def ref04_Log_Note.s (s_0 : O_RLog) (a_1 : List UInt8) (a_2 : List UInt8) : Option (Option O_RLog) := ((loopN (fun s : Int => ref04_Log_Note.b1 s_0 a_1 a_2 s) (((((lkp a_1 s_0.f_Digests).getD []).length : Int) - 0 : Int).toNat + 2) 0).bind fun cr => match cr with | .ret r => some r | .next y20 => (if ((lkp a_1 s_0.f_Digests).getD ([] : List (List UInt8))).length + [a_2].length ≤ mxl ∧ (((lkp a_1 s_0.f_Digests).getD ([] : List (List UInt8))).length + [a_2].length) * 16 ≤ 140737488355328 then (if s_0.f_Inputs.length + [a_2].length ≤ mxl ∧ (s_0.f_Inputs.length + [a_2].length) * 16 ≤ 140737488355328 then some (some ⟨s_0.f_Inputs ++ [a_2], upd a_1 (((lkp a_1 s_0.f_Digests).getD ([] : List (List UInt8))) ++ [a_2]) (ens a_1 ([] : List (List UInt8)) s_0.f_Digests)⟩) else none) else none))
def ref04_Log_Note (L_0 : Option O_RLog) (a_1 : List UInt8) (a_2 : List UInt8) : Option (Option O_RLog) := match L_0 with | none => ref04_Log_Note.n a_1 a_2 | some s_0 => ref04_Log_Note.s s_0 a_1 a_2
theorem ref04_Log_Note_ok {p_0 : Value} {L_0 : Option O_RLog} {a_1 : List UInt8} {a_2 : List UInt8} {r : (Option O_RLog)} (hF : ref04_Log_Note L_0 a_1 a_2 = some r) : CallOk Tryd.prog KG 146 [(eqVP p_0), (aggVP [bytesCk 32 a_1]), (strVP a_2)] [(RLog_e p_0 L_0)] (fun _ => [RLog_e p_0 r]) (tupVP []) := by
  refine CallOk.intro 46 Tryd.func146 rfl Tryd.ntmps146 (Nat.le_of_ble_eq_true rfl) ?_
  intro c a w hG hn h
  unfold ref04_Log_Note at hF
  change SatL c [.slot 0 (eqVP p_0), .slot 1 (aggVP [bytesCk 32 a_1]), .slot 2 (strVP a_2), .res (RLog_e p_0 L_0)] a w at h
  obtain ⟨h_0_0, h⟩ := h.ex 3 rfl
  obtain ⟨h_0_1, h⟩ := h.ex 3 rfl
  change SatL c [.slot 0 (eqVP p_0), .slot 1 (aggVP [bytesCk 32 a_1]), .slot 2 (strVP a_2), .res (RLog_o p_0 h_0_0 h_0_1 L_0)] a w at h
  cases L_0 with
  | none =>
    change ref04_Log_Note.n a_1 a_2 = some r at hF
    unfold ref04_Log_Note.n at hF
    obtain rfl := h.isp 3 rfl (fun _ _ _ q => q.2)
    replace h := h.slotc 0 rfl (V' := ptrVP (.pointer none) false) (fun _ _ h => ⟨h, rfl⟩)
    change SatL c [.slot 0 (ptrVP (.pointer none) false), .slot 1 (aggVP [bytesCk 32 a_1]), .slot 2 (strVP a_2), .res (RLog_o (.pointer none) h_0_0 h_0_1 none)] a w at h
    refine regS mixed hn hG h [0, 2, 501, 3, 500] (ob [1] (op_box q0 (cells_agg _)) .nil) fun b1 a w h => ?_
    refine wp_seq ?_
    refine regS mixed hn hG h [0, 1, 2, 500, 3, 4] (ov [0] (op_move q0) <| ov [500] (op_bin (bin_pnil Tryd.underlying55) q0 (opc (ec _))) .nil) fun _ a w h => ?_
    refine cond_L h 3 rfl (fun hb2 => ?_) (fun hb2 => ?_)
    · skip
      replace h := h.sel [4]
      refine wp_ret ?_
      replace h := h.conv 0 rfl RLog_packo
      change SatL c [.res (RLog_e (.pointer none) none)] a w at h
      obtain rfl := Option.some.inj hF
      exact ⟨.inl rfl, retn h (rs := []) (Vs := []) Tryd.results146 (by decide) trivial [0] [(RLog_e (.pointer none) none)] rfl rfl rfl⟩
    · cases hb2
  | some s_0 =>
    change ref04_Log_Note.s s_0 a_1 a_2 = some r at hF
    unfold ref04_Log_Note.s at hF
    have hp := h.isp 3 rfl (fun Φ f w q => RLog_lp Φ f w q)
    replace h := h.slotc 0 rfl (V' := lpVP p_0 0) (fun _ _ h => eq_lp h hp)
    replace h := h.sep (R := lb p_0 153 [one (eqVP h_0_0), one (eqVP h_0_1)]) (S := (RP.sep (acc h_0_0 9 1 strC s_0.f_Inputs) (mapR h_0_1 arrK (fun l => l.length = 32) (fun u y => acc u 9 1 strC y) s_0.f_Digests))) 3 rfl
    replace h := h.sep (R := acc h_0_0 9 1 strC s_0.f_Inputs) (S := (mapR h_0_1 arrK (fun l => l.length = 32) (fun u y => acc u 9 1 strC y) s_0.f_Digests)) 4 rfl
    replace h := h.sub [0, 1, 2, 3, 4, 5] (by rfl)
    change SatL c [.slot 0 (lpVP p_0 0), .slot 1 (aggVP [bytesCk 32 a_1]), .slot 2 (strVP a_2), .res (lb p_0 153 [one (eqVP h_0_0), one (eqVP h_0_1)]), .res (acc h_0_0 9 1 strC s_0.f_Inputs), .res (mapR h_0_1 arrK (fun l => l.length = 32) (fun u y => acc u 9 1 strC y) s_0.f_Digests)] a w at h
    refine regS mixed hn hG h [0, 2, 501, 3, 4, 5, 500] (ob [1] (op_box q0 (cells_agg _)) .nil) fun b3 a w h => ?_
    refine wp_seq ?_
    refine regS mixed hn hG h [0, 1, 2, 500, 3, 4, 5, 6] (ov [0] (op_move q0) <| ov [500] (op_bin (bin_pnil Tryd.underlying55) (lp_ptr q0) (opc (ec _))) .nil) fun _ a w h => ?_
    refine cond_L h 3 rfl (fun hb4 => ?_) (fun hb4 => ?_)
    · cases hb4
    · skip
      replace h := h.sel [0, 1, 2, 4, 5, 6, 7]
      refine wp_skip ?_
      show Code.wp Tryd.prog _ _ a w
      refine wp_seq ?_
      refine regS mixed hn hG h [0, 1, 2, 502, 501, 500, 3, 4, 5, 6] (ov [0] (op_move q0) <| ov [500] (op_nilCheck q0 (ptr_lp _ _)) <| ov [500] (op_fieldAddr_lbm (p := p_0) (n := 1) 0 1 Tryd.underlying153 rfl Tryd.sizeOf150 (by decide) q0 rfl) <| ov [500, 3] (op_load_lb1 [one (eqVP h_0_0)] [] 1 Tryd.isAgg150 q0 rfl rfl) <| ov [2, 6] (op_load_w 1 Tryd.isAgg25 Tryd.sizeOf25 q0) <| ov [501, 500, 5] (op_lookup (slVP strC) [] 2 Tryd.underlying150 (keyArr Tryd.underlying25 Tryd.underlying5 Tryd.type5 Tryd.sizeOf5 Tryd.isAgg5) Tryd.zeroValue151 q0 q1 hk_arr rfl res_id (fun _ _ _ _ _ h => acc_sl h) (fun _ => ⟨by decide, .inl ⟨rfl, rfl⟩⟩)) <| ov [500] (op_len_sl Tryd.underlying151 q0) <| ov [] (op_move qi) .nil) fun _ a w h => ?_
      refine wp_block ?_
      obtain ⟨cr16, hl17, hF⟩ := bind_some hF
      refine wp_mono (wp_loopN (R := (Option O_RLog)) (S := Int) (fun s a w => SatL c [.slot 0 (lpVP p_0 0), .slot 2 (strVP a_2), .slot 4 (lpVP (b3 0) 0), .slot 15 (slVP strC ((lkp a_1 s_0.f_Digests).getD [])), .slot 16 (intVP .i64 (((lkp a_1 s_0.f_Digests).getD []).length : Int)), .slot 17 (intVP .i64 s), .res (lb p_0 153 [one (eqVP h_0_0), one (eqVP h_0_1)]), .res (acc h_0_0 9 1 strC s_0.f_Inputs), .res (mapR h_0_1 arrK (fun l => l.length = 32) (fun u y => acc u 9 1 strC y) s_0.f_Digests), .res (lb (b3 0) 25 [bytesCk 32 a_1])] a w) (fun res e a w => match res with | .next s => e = .exit 0 ∧ SatL c [.slot 0 (lpVP p_0 0), .slot 2 (strVP a_2), .slot 4 (lpVP (b3 0) 0), .res (lb p_0 153 [one (eqVP h_0_0), one (eqVP h_0_1)]), .res (acc h_0_0 9 1 strC s_0.f_Inputs), .res (mapR h_0_1 arrK (fun l => l.length = 32) (fun u y => acc u 9 1 strC y) s_0.f_Digests), .res (lb (b3 0) 25 [bytesCk 32 a_1])] a w | .ret r => e = .ret ∧ RetOk Tryd.prog Tryd.f146 c (tupVP []) (fun _ => [RLog_e p_0 r]) a w) ?_ _ 0 _ _ _ (h.sub [0, 1, 2, 3, 4, 5, 6, 7, 8, 9] (by rfl)) hl17) ?_
      · clear hl17 hF h
        intro x8 a w o h hF
        change ref04_Log_Note.b1 s_0 a_1 a_2 x8 = some o at hF
        unfold ref04_Log_Note.b1 at hF
        change SatL c [.slot 0 (lpVP p_0 0), .slot 2 (strVP a_2), .slot 4 (lpVP (b3 0) 0), .slot 15 (slVP strC ((lkp a_1 s_0.f_Digests).getD [])), .slot 16 (intVP .i64 (((lkp a_1 s_0.f_Digests).getD []).length : Int)), .slot 17 (intVP .i64 x8), .res (lb p_0 153 [one (eqVP h_0_0), one (eqVP h_0_1)]), .res (acc h_0_0 9 1 strC s_0.f_Inputs), .res (mapR h_0_1 arrK (fun l => l.length = 32) (fun u y => acc u 9 1 strC y) s_0.f_Digests), .res (lb (b3 0) 25 [bytesCk 32 a_1])] a w at h
        refine regS mixed hn hG h [0, 1, 2, 3, 4, 5, 500, 6, 7, 8, 9] (ov [5, 4] (op_bin bin_lss q0 q1) .nil) fun _ a w h => ?_
        refine wp_seq ?_
        refine cnd h hF 6 [0, 1, 2, 3, 4, 5, 7, 8, 9, 10] [0, 1, 2, 3, 4, 5, 7, 8, 9, 10] (fun hb13 hF h => ?_) (fun hb13 hF h => ?_)
        · refine wp_skip ?_
          show Code.wp Tryd.prog _ _ a w
          refine wp_seq ?_
          refine wp_block ?_
          obtain ⟨hv14, hF⟩ := ite_some hF
          refine regS mixed hn hG h [0, 1, 2, 500, 3, 4, 5, 6, 7, 8, 9] (ov [3, 5] (op_indexAddr_sl Tryd.underlying151 Tryd.sizeOf9 lens_strC q0 q1 hv14) <| ov [500] (op_load_pp1 [] Tryd.isAgg9 q0) <| ov [500] (op_assign q0) .nil) fun _ a w h => ?_
          refine regS mixed hn hG h [0, 1, 2, 4, 5, 6, 500, 7, 8, 9, 10] (ov [3] (op_move q0) <| ov [1] (op_move q0) <| ov [501, 500] (op_bin bin_seql q0 q1) .nil) fun _ a w h => ?_
          refine cnd h hF 6 [7, 8, 9] [0, 1, 2, 3, 4, 5, 7, 8, 9, 10] (fun hb15 hF h => ?_) (fun hb15 hF h => ?_)
          · refine wp_ret ?_
            replace h := h.unsep 1 2 rfl rfl (by decide)
            replace h := h.unsep 0 1 rfl rfl (by decide)
            replace h := h.conv 0 rfl (R' := RLog_e p_0 (some s_0)) (RLog_packo (v0 := h_0_0) (v1 := h_0_1) (o := (some s_0)))
            replace h := h.sub [0] (by rfl)
            change SatL c [.res (RLog_e p_0 (some s_0))] a w at h
            obtain rfl := Option.some.inj hF
            exact ⟨ret_ne, rfl, retn h (rs := []) (Vs := []) Tryd.results146 (by decide) trivial [0] [(RLog_e p_0 (some s_0))] rfl rfl rfl⟩
          · refine wp_skip ?_
            show Code.wp Tryd.prog _ _ a w
            refine reg mixed hn hG h [0, 1, 2, 3, 4, 500, 6, 7, 8, 9] (ov [5] (op_bin bin_add q0 qi) <| od [500] 5 (op_move q0) .nil) fun _ a w h => ?_
            obtain rfl := Option.some.inj hF
            exact ⟨rfl, h.sub [0, 1, 2, 3, 4, 5, 6, 7, 8, 9] (by rfl)⟩
        · refine wp_exit ?_
          obtain rfl := Option.some.inj hF
          exact ⟨exit_ne _, rfl, h.sub [0, 1, 2, 6, 7, 8, 9] (by rfl)⟩
      · clear hl17
        intro e a w hq
        cases cr16 with
        | ret r18 =>
          obtain ⟨rfl, hq⟩ := hq
          obtain rfl := Option.some.inj hF
          exact ⟨.inl rfl, hq⟩
        | next y20 =>
          obtain ⟨rfl, h⟩ := hq
          change SatL c [.slot 0 (lpVP p_0 0), .slot 2 (strVP a_2), .slot 4 (lpVP (b3 0) 0), .res (lb p_0 153 [one (eqVP h_0_0), one (eqVP h_0_1)]), .res (acc h_0_0 9 1 strC s_0.f_Inputs), .res (mapR h_0_1 arrK (fun l => l.length = 32) (fun u y => acc u 9 1 strC y) s_0.f_Digests), .res (lb (b3 0) 25 [bytesCk 32 a_1])] a w at h
          refine inBlock_at ?_
          show Code.wp Tryd.prog _ _ a w
          obtain ⟨hv21, hF⟩ := ite_some hF
          refine regS mixed hn hG h [0, 1, 3, 4, 500] (ov [0] (op_move q0) <| ov [500] (op_nilCheck q0 (ptr_lp _ _)) <| ov [500] (op_fieldAddr_lbm (p := p_0) (n := 1) 0 1 Tryd.underlying153 rfl Tryd.sizeOf150 (by decide) q0 rfl) <| ov [500, 3] (op_load_lb1 [one (eqVP h_0_0)] [] 1 Tryd.isAgg150 q0 rfl rfl) <| ov [2, 6] (op_load_w 1 Tryd.isAgg25 Tryd.sizeOf25 q0) <| ov [1] (op_move q0) <| ov [500] (op_lit (xs := [.tmp 31]) (ys := [a_2]) _ rfl Tryd.underlying151 Tryd.sizeOf9 Tryd.zeroValue9 rfl rfl (by decide) (by decide) ⟨⟨_, q0, (cells_one (one_str _))⟩, trivial⟩ lens_strC) <| og [503, 502] [5] [.slot 33 7 100000 (fun v1_ _ => (tupVP [(eqVP (tup0 v1_)), (eqVP (tup1 v1_))])), .res 7 100000 (fun v1_ _ => (acc (tup0 v1_) 9 1 strC ((lkp a_1 s_0.f_Digests).getD ([] : List (List UInt8))))), .res 7 100000 (fun v1_ _ => (mapH h_0_1 (tup1 v1_) arrK (fun l => l.length = 32) (fun u y => acc u 9 1 strC y) a_1 (ens a_1 ([] : List (List UInt8)) s_0.f_Digests)))] (GOk.plain (op_mapEntry ([] : List (List UInt8)) Tryd.underlying150 (keyArr Tryd.underlying25 Tryd.underlying5 Tryd.type5 Tryd.sizeOf5 Tryd.isAgg5) Tryd.zeroValue151 q0 q1 hk_arr (fun _ _ => ⟨by decide, .inl ⟨rfl, rfl, rfl⟩⟩)) rfl) <| og [502] [] [.slot 30 7 100000 (fun v1_ _ => (eqVP (tup0 v1_)))] (fun {β} => (GOk.plain (op_extract (V := (eqVP (tup0 (β 7)))) q0 rfl) rfl)) <| og [500, 504] [502] [.slot 34 9 100000 (fun v1_ _ => (eqVP v1_)), .res 9 100000 (fun v1_ _ => (acc (v1_) 9 1 strC (((lkp a_1 s_0.f_Digests).getD ([] : List (List UInt8))) ++ [a_2])))] (GOk.plain (op_append (i := Tryd.t9) Tryd.underlying151 Tryd.type9 rfl lens_strC (by decide) rfl q0 q1 hv21) rfl) <| og [505] [] [.slot 35 7 100000 (fun v1_ _ => (eqVP (tup1 v1_)))] (fun {β} => (GOk.plain (op_extract (V := (eqVP (tup1 (β 7)))) q0 rfl) rfl)) <| og [510, 500, 502] [501, 504] [.base (.res (mapR h_0_1 arrK (fun l => l.length = 32) (fun u y => acc u 9 1 strC y) (upd a_1 (((lkp a_1 s_0.f_Digests).getD ([] : List (List UInt8))) ++ [a_2]) (ens a_1 ([] : List (List UInt8)) s_0.f_Digests))))] (fun {β} => (GOk.plain (op_entryStore (eR := (fun u y => acc u 9 1 strC y)) (u := (β 9)) (n := (((lkp a_1 s_0.f_Digests).getD ([] : List (List UInt8))) ++ [a_2])) q0 q1 q2) rfl)) .nil) fun _ a w h => ?_
          obtain ⟨hv22, hF⟩ := ite_some hF
          refine reg mixed hn hG h [500, 4, 503] (ov [0] (op_move q0) <| ov [0] (op_move q0) <| ov [500] (op_nilCheck q0 (ptr_lp _ _)) <| ov [500] (op_fieldAddr_lbm (p := p_0) (n := 1) 0 0 Tryd.underlying153 rfl Tryd.sizeOf151 (by decide) q0 rfl) <| ov [500, 2] (op_load_lb1 [] [one (eqVP h_0_1)] 1 Tryd.isAgg151 q0 rfl rfl) <| ov [1] (op_move q0) <| ov [500] (op_lit (xs := [.tmp 41]) (ys := [a_2]) _ rfl Tryd.underlying151 Tryd.sizeOf9 Tryd.zeroValue9 rfl rfl (by decide) (by decide) ⟨⟨_, q0, (cells_one (one_str _))⟩, trivial⟩ lens_strC) <| og [502, 500] [3] [.slot 43 7 100000 (fun v1_ _ => (eqVP v1_)), .res 7 100000 (fun v1_ _ => (acc (v1_) 9 1 strC (s_0.f_Inputs ++ [a_2])))] (GOk.plain (op_append (i := Tryd.t9) Tryd.underlying151 Tryd.type9 rfl lens_strC (by decide) rfl q0 q1 hv22) rfl) <| ov [508] (op_nilCheck q0 (ptr_lp _ _)) <| ov [500] (op_fieldAddr_lbm (p := p_0) (n := 1) 0 0 Tryd.underlying153 rfl Tryd.sizeOf151 (by decide) q0 rfl) <| og [500, 503, 502] [2] [.res 7 100000 (fun v1_ _ => (lb p_0 153 [one (eqVP (v1_)), one (eqVP h_0_1)]))] (fun {β} => (GOk.plain (op_store_lb [] [one (eqVP h_0_0)] [one (eqVP h_0_1)] [one (eqVP ((β 7)))] Tryd.sizeOf151 q0 (opone 1 2 rfl rfl acc_one) (cells_h _) rfl rfl rfl) rfl)) .nil) fun b23 a w h => ?_
          replace h := h.unsep 2 1 rfl rfl (by decide)
          replace h := h.unsep 0 2 rfl rfl (by decide)
          replace h := h.conv 0 rfl (R' := RLog_e p_0 (some ⟨s_0.f_Inputs ++ [a_2], upd a_1 (((lkp a_1 s_0.f_Digests).getD ([] : List (List UInt8))) ++ [a_2]) (ens a_1 ([] : List (List UInt8)) s_0.f_Digests)⟩)) (RLog_packo (v0 := (b23 7)) (v1 := h_0_1) (o := (some ⟨s_0.f_Inputs ++ [a_2], upd a_1 (((lkp a_1 s_0.f_Digests).getD ([] : List (List UInt8))) ++ [a_2]) (ens a_1 ([] : List (List UInt8)) s_0.f_Digests)⟩)))
          replace h := h.sub [0] (by rfl)
          change SatL c [.res (RLog_e p_0 (some ⟨s_0.f_Inputs ++ [a_2], upd a_1 (((lkp a_1 s_0.f_Digests).getD ([] : List (List UInt8))) ++ [a_2]) (ens a_1 ([] : List (List UInt8)) s_0.f_Digests)⟩))] a w at h
          obtain rfl := Option.some.inj hF
          exact ⟨.inr rfl, retn h (rs := []) (Vs := []) Tryd.results146 (by decide) trivial [0] [(RLog_e p_0 (some ⟨s_0.f_Inputs ++ [a_2], upd a_1 (((lkp a_1 s_0.f_Digests).getD ([] : List (List UInt8))) ++ [a_2]) (ens a_1 ([] : List (List UInt8)) s_0.f_Digests)⟩))] rfl rfl rfl⟩

def ref04_Log_Of (L_0 : Option O_RLog) (a_1 : Int) (a_2 : List (List UInt8)) : Option ((List UInt8) × (Option O_RLog)) := ((ref04_Input a_1 a_2).bind fun r2 => ((ref01_Sum r2).bind fun r3 => ((ref04_Log_Note L_0 r3 r2).bind fun r5 => some (r3, r5))))
theorem ref04_Log_Of_ok {p_0 : Value} {L_0 : Option O_RLog} {a_1 : Int} {a_2 : List (List UInt8)} {r : (List UInt8) × (Option O_RLog)} (hF : ref04_Log_Of L_0 a_1 a_2 = some r) : CallOk Tryd.prog KG 88 [(eqVP p_0), (intVP .u8 a_1), (slVP strC a_2)] [(RLog_e p_0 L_0)] (fun _ => [RLog_e p_0 r.2]) (aggVP [bytesCk 32 r.1]) := by
  refine CallOk.intro 19 Tryd.func88 rfl Tryd.ntmps88 (Nat.le_of_ble_eq_true rfl) ?_
  intro c a w hG hn h
  unfold ref04_Log_Of at hF
  change SatL c [.slot 0 (eqVP p_0), .slot 1 (intVP .u8 a_1), .slot 2 (slVP strC a_2), .res (RLog_e p_0 L_0)] a w at h
  refine regS mixed hn hG h [0, 1, 2, 501, 3, 500] (ob [] (op_alloc Tryd.zeroValue25 z25) .nil) fun b1 a w h => ?_
  obtain ⟨r2, hr2, hF⟩ := bind_some hF
  refine regS mixed hn hG h [0, 3, 500, 4, 5] (ov [1] (op_move q0) <| ov [2] (op_move q0) <| oc [501, 500] [] Tryd.call144 (ref04_Input_ok hr2) ⟨q0, q1, trivial⟩ <| ov [500] (op_assign q0) .nil) fun _ a w h => ?_
  obtain ⟨r3, hr3, hF⟩ := bind_some hF
  refine regS mixed hn hG h [0, 1, 2, 502, 3, 4, 500] (ov [2] (op_move q0) <| oc [500] [] Tryd.call145 (ref01_Sum_ok hr3) ⟨q0, trivial⟩ <| ob [] (op_alloc Tryd.zeroValue25 z25) <| og [501, 502] [500] [.res 2 100000 (fun v1_ _ => (lb (v1_) 25 [bytesCk 32 r3]))] (GOk.plain (op_store_w Tryd.sizeOf25 q0 q1 (cells_agg _)) rfl) .nil) fun b4 a w h => ?_
  obtain ⟨r5, hr5, hF⟩ := bind_some hF
  refine regS mixed hn hG h [1, 3, 5, 6, 500] (ov [0] (op_move q0) <| ov [3, 6] (op_load_w 1 Tryd.isAgg25 Tryd.sizeOf25 q0) <| ov [2] (op_move q0) <| oc [502, 501, 500] [4] Tryd.call146 (ref04_Log_Note_ok hr5) ⟨q0, q1, q2, trivial⟩ .nil) fun _ a w h => ?_
  refine regS mixed hn hG h [0, 500, 4] (ov [1, 3] (op_load_w 1 Tryd.isAgg25 Tryd.sizeOf25 q0) <| ou [0, 500] 2 (op_store_w Tryd.sizeOf25 q0 q1 (cells_agg _)) .nil) fun _ a w h => ?_
  refine wp_ret ?_
  obtain rfl := Option.some.inj hF
  exact ⟨.inl rfl, ret1 h Tryd.results88 (r_cell 0 1 rfl rfl Tryd.isAgg25 Tryd.sizeOf25 rfl) [2] [(RLog_e p_0 r5)] rfl rfl rfl⟩

def ref03_Bytes (a_0 : List UInt8) : Option (List UInt8) := some (a_0.take ((32 : Int).toNat - (0 : Int).toNat))
theorem ref03_Bytes_ok {a_0 : List UInt8} {r : (List UInt8)} (hF : ref03_Bytes a_0 = some r) : CallOk Tryd.prog KG 126 [(aggVP [bytesCk 32 a_0])] [] (fun _ => []) (strVP r) := by
  refine CallOk.intro 5 Tryd.func126 rfl Tryd.ntmps126 (Nat.le_of_ble_eq_true rfl) ?_
  intro c a w hG hn h
  unfold ref03_Bytes at hF
  change SatL c [.slot 0 (aggVP [bytesCk 32 a_0])] a w at h
  refine regS mixed hn hG h [502, 501] (ob [0] (op_box q0 (cells_agg _)) <| ov [] (op_assign (opc (sc _ (by decide)))) .nil) fun b1 a w h => ?_
  refine regS mixed hn hG h [500] (ov [0] (op_slice_lb (a := 0) (b := 32) Tryd.underlying25 Tryd.sizeOf5 q0 rfl rfl (by decide)) <| ov [500, 1] (op_str_lsl [] [] 1 Tryd.underlying259 Tryd.underlying5 Tryd.underlying9 q0 rfl rfl (by decide) (by decide)) <| ov [500] (op_assign q0) .nil) fun _ a w h => ?_
  refine wp_ret ?_
  obtain rfl := Option.some.inj hF
  exact ⟨.inl rfl, ret1 h Tryd.results126 (r_tmp 0 rfl) [] [] rfl rfl rfl⟩

def ref21_Bytes (a_0 : S_ref21_Note) : Option (List UInt8) := ((ref03_Big (IntKind.wrap .u64 a_0.f_Kind) 1).bind fun r2 => ((ref03_Big (IntKind.wrap .u64 a_0.f_Home) 4).bind fun r3 => (if r2.length + r3.length ≤ mxl then ((ref03_Big a_0.f_Next 8).bind fun r5 => (if (r2 ++ r3).length + r5.length ≤ mxl then ((ref03_Bytes a_0.f_Old).bind fun r7 => (if ((r2 ++ r3) ++ r5).length + r7.length ≤ mxl then ((ref03_Bytes a_0.f_New).bind fun r9 => (if (((r2 ++ r3) ++ r5) ++ r7).length + r9.length ≤ mxl then ((ref03_Big a_0.f_Sent 8).bind fun r11 => (if ((((r2 ++ r3) ++ r5) ++ r7) ++ r9).length + r11.length ≤ mxl then ((ref04_Log_Of none 200 [((((r2 ++ r3) ++ r5) ++ r7) ++ r9) ++ r11]).bind fun r13 => ((ref03_Bytes r13.1).bind fun r14 => (if (((((r2 ++ r3) ++ r5) ++ r7) ++ r9) ++ r11).length + r14.length ≤ mxl then some ((((((r2 ++ r3) ++ r5) ++ r7) ++ r9) ++ r11) ++ r14) else none))) else none)) else none)) else none)) else none)) else none)))
theorem ref21_Bytes_ok {a_0 : S_ref21_Note} {r : (List UInt8)} (hF : ref21_Bytes a_0 = some r) : CallOk Tryd.prog KG 73 [(aggVP [one (intVP .u8 a_0.f_Kind), one (intVP .u32 a_0.f_Home), one (intVP .u64 a_0.f_Next), bytesCk 32 a_0.f_Old, bytesCk 32 a_0.f_New, one (intVP .u64 a_0.f_Sent)])] [] (fun _ => []) (strVP r) := by
  refine CallOk.intro 37 Tryd.func73 rfl Tryd.ntmps73 (Nat.le_of_ble_eq_true rfl) ?_
  intro c a w hG hn h
  unfold ref21_Bytes at hF
  change SatL c [.slot 0 (aggVP [one (intVP .u8 a_0.f_Kind), one (intVP .u32 a_0.f_Home), one (intVP .u64 a_0.f_Next), bytesCk 32 a_0.f_Old, bytesCk 32 a_0.f_New, one (intVP .u64 a_0.f_Sent)])] a w at h
  refine regS mixed hn hG h [502, 501] (ob [0] (op_box q0 (cells_agg _)) <| ov [] (op_assign (opc (sc _ (by decide)))) .nil) fun b1 a w h => ?_
  obtain ⟨r2, hr2, hF⟩ := bind_some hF
  obtain ⟨r3, hr3, hF⟩ := bind_some hF
  obtain ⟨hv4, hF⟩ := ite_some hF
  obtain ⟨r5, hr5, hF⟩ := bind_some hF
  obtain ⟨hv6, hF⟩ := ite_some hF
  obtain ⟨r7, hr7, hF⟩ := bind_some hF
  obtain ⟨hv8, hF⟩ := ite_some hF
  obtain ⟨r9, hr9, hF⟩ := bind_some hF
  obtain ⟨hv10, hF⟩ := ite_some hF
  obtain ⟨r11, hr11, hF⟩ := bind_some hF
  obtain ⟨hv12, hF⟩ := ite_some hF
  refine regS mixed hn hG h [500] (ov [0] (op_fieldAddr_lbm (p := (b1 0)) (n := 1) 0 0 Tryd.underlying142 rfl Tryd.sizeOf5 (by decide) q0 rfl) <| ov [500, 1] (op_load_lb1 [] [one (intVP .u32 a_0.f_Home), one (intVP .u64 a_0.f_Next), bytesCk 32 a_0.f_Old, bytesCk 32 a_0.f_New, one (intVP .u64 a_0.f_Sent)] 1 Tryd.isAgg5 q0 rfl rfl) <| ov [500] (op_convert_int Tryd.underlying5 Tryd.underlying27 q0) <| oc [500] [] Tryd.call125 (ref03_Big_ok hr2) ⟨q0, qi, trivial⟩ <| ov [0] (op_fieldAddr_lbm (p := (b1 0)) (n := 1) 0 1 Tryd.underlying142 rfl Tryd.sizeOf22 (by decide) q0 rfl) <| ov [500, 1] (op_load_lb1 [one (intVP .u8 a_0.f_Kind)] [one (intVP .u64 a_0.f_Next), bytesCk 32 a_0.f_Old, bytesCk 32 a_0.f_New, one (intVP .u64 a_0.f_Sent)] 1 Tryd.isAgg22 q0 rfl rfl) <| ov [500] (op_convert_int Tryd.underlying22 Tryd.underlying27 q0) <| oc [500] [] Tryd.call125 (ref03_Big_ok hr3) ⟨q0, qi, trivial⟩ <| ov [504, 500] (op_bin (bin_sadd hv4) q0 q1) <| ov [0] (op_fieldAddr_lbm (p := (b1 0)) (n := 1) 0 2 Tryd.underlying142 rfl Tryd.sizeOf27 (by decide) q0 rfl) <| ov [500, 1] (op_load_lb1 [one (intVP .u8 a_0.f_Kind), one (intVP .u32 a_0.f_Home)] [bytesCk 32 a_0.f_Old, bytesCk 32 a_0.f_New, one (intVP .u64 a_0.f_Sent)] 1 Tryd.isAgg27 q0 rfl rfl) <| oc [500] [] Tryd.call125 (ref03_Big_ok hr5) ⟨q0, qi, trivial⟩ <| ov [503, 500] (op_bin (bin_sadd hv6) q0 q1) <| ov [0] (op_fieldAddr_lbm (p := (b1 0)) (n := 32) 0 3 Tryd.underlying142 rfl Tryd.sizeOf25 (by decide) q0 rfl) <| ov [500, 1] (op_load_lb [one (intVP .u8 a_0.f_Kind), one (intVP .u32 a_0.f_Home), one (intVP .u64 a_0.f_Next)] [bytesCk 32 a_0.f_Old] [bytesCk 32 a_0.f_New, one (intVP .u64 a_0.f_Sent)] 1 Tryd.isAgg25 Tryd.sizeOf25 q0 rfl rfl rfl) <| oc [500] [] Tryd.call126 (ref03_Bytes_ok hr7) ⟨q0, trivial⟩ <| ov [503, 500] (op_bin (bin_sadd hv8) q0 q1) <| ov [0] (op_fieldAddr_lbm (p := (b1 0)) (n := 32) 0 35 Tryd.underlying142 rfl Tryd.sizeOf25 (by decide) q0 rfl) <| ov [500, 1] (op_load_lb [one (intVP .u8 a_0.f_Kind), one (intVP .u32 a_0.f_Home), one (intVP .u64 a_0.f_Next), bytesCk 32 a_0.f_Old] [bytesCk 32 a_0.f_New] [one (intVP .u64 a_0.f_Sent)] 1 Tryd.isAgg25 Tryd.sizeOf25 q0 rfl rfl rfl) <| oc [500] [] Tryd.call126 (ref03_Bytes_ok hr9) ⟨q0, trivial⟩ <| ov [503, 500] (op_bin (bin_sadd hv10) q0 q1) <| ov [0] (op_fieldAddr_lbm (p := (b1 0)) (n := 1) 0 67 Tryd.underlying142 rfl Tryd.sizeOf27 (by decide) q0 rfl) <| ov [500, 1] (op_load_lb1 [one (intVP .u8 a_0.f_Kind), one (intVP .u32 a_0.f_Home), one (intVP .u64 a_0.f_Next), bytesCk 32 a_0.f_Old, bytesCk 32 a_0.f_New] [] 1 Tryd.isAgg27 q0 rfl rfl) <| oc [500] [] Tryd.call125 (ref03_Big_ok hr11) ⟨q0, qi, trivial⟩ <| ov [503, 500] (op_bin (bin_sadd hv12) q0 q1) <| ov [500] (op_assign q0) .nil) fun _ a w h => ?_
  refine regS mixed hn hG h [0, 500] (ov [] (op_assign (opc (ec _))) .nil) fun _ a w h => ?_
  replace h := h.snoc RLog_nil
  replace h := h.sub [0, 1, 2] (by rfl)
  change SatL c [.slot 3 (strVP (((((r2 ++ r3) ++ r5) ++ r7) ++ r9) ++ r11)), .slot 4 (eqVP (.pointer none)), .res (RLog_e (Value.pointer none) none)] a w at h
  obtain ⟨r13, hr13, hF⟩ := bind_some hF
  obtain ⟨r14, hr14, hF⟩ := bind_some hF
  obtain ⟨hv15, hF⟩ := ite_some hF
  refine regS mixed hn hG h [500, 503] (ov [0] (op_move q0) <| ov [1] (op_move q0) <| ov [0] (op_move q0) <| ov [500] (op_lit (xs := [.tmp 32]) (ys := [((((r2 ++ r3) ++ r5) ++ r7) ++ r9) ++ r11]) _ rfl Tryd.underlying151 Tryd.sizeOf9 Tryd.zeroValue9 rfl rfl (by decide) (by decide) ⟨⟨_, q0, (cells_one (one_str _))⟩, trivial⟩ lens_strC) <| oc [502, 500] [2] Tryd.call88 (ref04_Log_Of_ok hr13) ⟨q0, qi, q1, trivial⟩ <| oc [501] [] Tryd.call126 (ref03_Bytes_ok hr14) ⟨q0, trivial⟩ <| ov [506, 500] (op_bin (bin_sadd hv15) q0 q1) <| ov [500] (op_assign q0) .nil) fun _ a w h => ?_
  refine wp_ret ?_
  obtain rfl := Option.some.inj hF
  exact ⟨.inl rfl, ret1 h Tryd.results73 (r_tmp 0 rfl) [] [] rfl rfl rfl⟩

def ref03_Reader_Take.j2 (a_1 : Int) (x2 : O_RRdr) : Option ((List UInt8) × O_RRdr) := (if (!decide (x2.f_Bad = (0 : Int))) = true then some ([], x2) else (if (0 : Int) ≤ 0 ∧ (0 : Int) ≤ a_1 ∧ a_1 ≤ x2.f_S.length then (if (0 : Int) ≤ a_1 ∧ a_1 ≤ (x2.f_S.length : Int) ∧ (x2.f_S.length : Int) ≤ x2.f_S.length then some ((x2.f_S.take a_1.toNat).drop (0 : Int).toNat, ⟨(x2.f_S.take (x2.f_S.length : Int).toNat).drop a_1.toNat, x2.f_Bad⟩) else none) else none))
def ref03_Reader_Take.j1 (L_0 : O_RRdr) (a_1 : Int) (x1 : Bool) : Option ((List UInt8) × O_RRdr) := (if x1 = true then ref03_Reader_Take.j2 a_1 ⟨L_0.f_S, 3⟩ else ref03_Reader_Take.j2 a_1 L_0)
def ref03_Reader_Take (L_0 : O_RRdr) (a_1 : Int) : Option ((List UInt8) × O_RRdr) := (if (decide (L_0.f_Bad = (0 : Int))) = true then ref03_Reader_Take.j1 L_0 a_1 (decide ((L_0.f_S.length : Int) < a_1)) else ref03_Reader_Take.j1 L_0 a_1 false)
theorem ref03_Reader_Take_ok {p_0 : Value} {L_0 : O_RRdr} {a_1 : Int} {r : (List UInt8) × O_RRdr} (hF : ref03_Reader_Take L_0 a_1 = some r) : CallOk Tryd.prog KG 174 [(eqVP p_0), (intVP .i64 a_1)] [(RRdr_e p_0 (some L_0))] (fun _ => [RRdr_e p_0 (some r.2)]) (strVP r.1) := by
  refine CallOk.intro 44 Tryd.func174 rfl Tryd.ntmps174 (Nat.le_of_ble_eq_true rfl) ?_
  intro c a w hG hn h
  unfold ref03_Reader_Take at hF
  change SatL c [.slot 0 (eqVP p_0), .slot 1 (intVP .i64 a_1), .res (RRdr_e p_0 (some L_0))] a w at h
  refine regS mixed hn hG h [0, 1, 2] (ov [] (op_assign (opc (sc _ (by decide)))) .nil) fun _ a w h => ?_
  refine wp_seq ?_
  have hp := h.isp 2 rfl (fun Φ f w q => RRdr_lp Φ f w q)
  replace h := h.slotc 0 rfl (V' := lpVP p_0 0) (fun _ _ h => eq_lp h hp)
  replace h := h.sub [0, 1, 2] (by rfl)
  change SatL c [.slot 0 (lpVP p_0 0), .slot 1 (intVP .i64 a_1), .res (lb p_0 205 [one (strVP L_0.f_S), one (intVP .i64 L_0.f_Bad)])] a w at h
  refine wp_seq ?_
  refine wp_cut (fun a w => ∃ (x1 : Bool), ref03_Reader_Take.j1 L_0 a_1 x1 = some r ∧ SatL c [.slot 0 (eqVP p_0), .slot 1 (intVP .i64 a_1), .slot 19 (boolVP x1), .res (RRdr_e p_0 (some L_0))] a w) ?_ ?_
  · rcases Bool.eq_false_or_eq_true (decide (L_0.f_Bad = (0 : Int))) with hb7 | hb7
    · replace hF := tt_of hb7 hF
      refine reg mixed hn hG h [0, 1, 500, 2] (ov [0] (op_move q0) <| ov [500] (op_nilCheck q0 (ptr_lp _ _)) <| ov [500] (op_fieldAddr_lbm (p := p_0) (n := 1) 0 1 Tryd.underlying205 rfl Tryd.sizeOf3 (by decide) q0 rfl) <| ov [500, 2] (op_load_lb1 [one (strVP L_0.f_S)] [] 1 Tryd.isAgg3 q0 rfl rfl) <| ov [500] (op_bin bin_eql q0 qi) <| ov [500] (op_move q0) <| oe [500, 0] [] (GOk.on_eq hb7 rfl rfl rfl (op_move q0)) <| oe [501, 500] [] (GOk.on_eq hb7 rfl rfl rfl (op_nilCheck q0 (ptr_lp _ _))) <| oe [502, 500] [] (GOk.on_eq hb7 rfl rfl rfl (op_fieldAddr_lbm (p := p_0) (n := 1) 0 0 Tryd.underlying205 rfl Tryd.sizeOf9 (by decide) q0 rfl)) <| oe [503, 500, 2] [] (GOk.on_eq hb7 rfl rfl rfl (op_load_lb1 [] [one (intVP .i64 L_0.f_Bad)] 1 Tryd.isAgg9 q0 rfl rfl)) <| oe [504, 500] [] (GOk.on_eq hb7 rfl rfl rfl (op_len_str Tryd.underlying9 q0)) <| oe [505, 1] [] (GOk.on_eq hb7 rfl rfl rfl (op_move q0)) <| oe [506, 501, 500] [] (GOk.on_eq hb7 rfl rfl rfl (op_bin bin_lss q0 q1)) <| ov [507, 500] (op_pick_t hb7 q0 q1) .nil) fun _ a w h => ?_
      replace h := h.conv 3 rfl (R' := RRdr_e p_0 (some L_0)) (RRdr_packo (o := (some L_0)))
      replace h := h.slotc 0 rfl (fun _ _ h => lp_eqv h)
      replace h := h.sub [0, 1, 2, 3] (by rfl)
      change SatL c [.slot 0 (eqVP p_0), .slot 1 (intVP .i64 a_1), .slot 19 (boolVP (decide ((L_0.f_S.length : Int) < a_1))), .res (RRdr_e p_0 (some L_0))] a w at h
      exact ⟨decide ((L_0.f_S.length : Int) < a_1), hF, h.sub [0, 1, 2, 3] (by rfl)⟩
    · replace hF := ff_of hb7 hF
      refine reg mixed hn hG h [0, 1, 500, 2] (ov [0] (op_move q0) <| ov [500] (op_nilCheck q0 (ptr_lp _ _)) <| ov [500] (op_fieldAddr_lbm (p := p_0) (n := 1) 0 1 Tryd.underlying205 rfl Tryd.sizeOf3 (by decide) q0 rfl) <| ov [500, 2] (op_load_lb1 [one (strVP L_0.f_S)] [] 1 Tryd.isAgg3 q0 rfl rfl) <| ov [500] (op_bin bin_eql q0 qi) <| ov [500] (op_move q0) <| oe [500] [] (GOk.off_v (want := true) hb7 rfl rfl rfl rfl) <| oe [501] [] (GOk.off_v (want := true) hb7 rfl rfl rfl rfl) <| oe [502] [] (GOk.off_v (want := true) hb7 rfl rfl rfl rfl) <| oe [503] [] (GOk.off_v (want := true) hb7 rfl rfl rfl rfl) <| oe [504] [] (GOk.off_v (want := true) hb7 rfl rfl rfl rfl) <| oe [505] [] (GOk.off_v (want := true) hb7 rfl rfl rfl rfl) <| oe [506] [] (GOk.off_v (want := true) hb7 rfl rfl rfl rfl) <| ov [507] (op_pick_f hb7 q0 qb) .nil) fun _ a w h => ?_
      replace h := h.conv 3 rfl (R' := RRdr_e p_0 (some L_0)) (RRdr_packo (o := (some L_0)))
      replace h := h.slotc 0 rfl (fun _ _ h => lp_eqv h)
      replace h := h.sub [0, 1, 2, 3] (by rfl)
      change SatL c [.slot 0 (eqVP p_0), .slot 1 (intVP .i64 a_1), .slot 19 (boolVP false), .res (RRdr_e p_0 (some L_0))] a w at h
      exact ⟨false, hF, h.sub [0, 1, 2, 3] (by rfl)⟩
  · clear h hF
    rintro a w ⟨x1, hF, h⟩
    unfold ref03_Reader_Take.j1 at hF
    show Code.wp Tryd.prog _ _ a w
    refine wp_cut (fun a w => ∃ (x2 : O_RRdr), ref03_Reader_Take.j2 a_1 x2 = some r ∧ SatL c [.slot 0 (eqVP p_0), .slot 1 (intVP .i64 a_1), .res (RRdr_e p_0 (some x2))] a w) ?_ ?_
    · refine cnd h hF 2 [0, 1, 3] [0, 1, 3] (fun hb6 hF h => ?_) (fun hb6 hF h => ?_)
      · have hp := h.isp 2 rfl (fun Φ f w q => RRdr_lp Φ f w q)
        replace h := h.slotc 0 rfl (V' := lpVP p_0 0) (fun _ _ h => eq_lp h hp)
        replace h := h.sub [0, 1, 2] (by rfl)
        change SatL c [.slot 0 (lpVP p_0 0), .slot 1 (intVP .i64 a_1), .res (lb p_0 205 [one (strVP L_0.f_S), one (intVP .i64 L_0.f_Bad)])] a w at h
        refine reg mixed hn hG h [0, 1, 500] (ov [0] (op_move q0) <| ov [500] (op_nilCheck q0 (ptr_lp _ _)) <| ov [500] (op_fieldAddr_lbm (p := p_0) (n := 1) 0 1 Tryd.underlying205 rfl Tryd.sizeOf3 (by decide) q0 rfl) <| ou [500] 2 (op_store_lb [one (strVP L_0.f_S)] [one (intVP .i64 L_0.f_Bad)] [] [one (intVP .i64 3)] Tryd.sizeOf3 q0 qi (cells_one (one_int _ _)) rfl rfl rfl) .nil) fun _ a w h => ?_
        replace h := h.conv 2 rfl (R' := RRdr_e p_0 (some ⟨L_0.f_S, 3⟩)) (RRdr_packo (o := (some ⟨L_0.f_S, 3⟩)))
        replace h := h.slotc 0 rfl (fun _ _ h => lp_eqv h)
        replace h := h.sub [0, 1, 2] (by rfl)
        change SatL c [.slot 0 (eqVP p_0), .slot 1 (intVP .i64 a_1), .res (RRdr_e p_0 (some ⟨L_0.f_S, 3⟩))] a w at h
        exact ⟨⟨L_0.f_S, 3⟩, hF, h.sub [0, 1, 2] (by rfl)⟩
      · refine wp_skip ?_
        exact ⟨L_0, hF, h.sub [0, 1, 2] (by rfl)⟩
    · clear h hF
      rintro a w ⟨x2, hF, h⟩
      unfold ref03_Reader_Take.j2 at hF
      show Code.wp Tryd.prog _ _ a w
      refine wp_seq ?_
      have hp := h.isp 2 rfl (fun Φ f w q => RRdr_lp Φ f w q)
      replace h := h.slotc 0 rfl (V' := lpVP p_0 0) (fun _ _ h => eq_lp h hp)
      replace h := h.sub [0, 1, 2] (by rfl)
      change SatL c [.slot 0 (lpVP p_0 0), .slot 1 (intVP .i64 a_1), .res (lb p_0 205 [one (strVP x2.f_S), one (intVP .i64 x2.f_Bad)])] a w at h
      refine wp_seq ?_
      refine reg mixed hn hG h [0, 1, 500, 2] (ov [0] (op_move q0) <| ov [500] (op_nilCheck q0 (ptr_lp _ _)) <| ov [500] (op_fieldAddr_lbm (p := p_0) (n := 1) 0 1 Tryd.underlying205 rfl Tryd.sizeOf3 (by decide) q0 rfl) <| ov [500, 2] (op_load_lb1 [one (strVP x2.f_S)] [] 1 Tryd.isAgg3 q0 rfl rfl) <| ov [500] (op_bin bin_neq q0 qi) .nil) fun _ a w h => ?_
      replace h := h.conv 3 rfl (R' := RRdr_e p_0 (some x2)) (RRdr_packo (o := (some x2)))
      replace h := h.slotc 0 rfl (fun _ _ h => lp_eqv h)
      replace h := h.sub [0, 1, 2, 3] (by rfl)
      change SatL c [.slot 0 (eqVP p_0), .slot 1 (intVP .i64 a_1), .slot 27 (boolVP (!decide (x2.f_Bad = (0 : Int)))), .res (RRdr_e p_0 (some x2))] a w at h
      show Code.wp Tryd.prog _ _ a w
      refine cnd h hF 2 [3] [0, 1, 3] (fun hb3 hF h => ?_) (fun hb3 hF h => ?_)
      · refine regS mixed hn hG h [500, 0] (ov [] (op_assign (opc (sc _ (by decide)))) .nil) fun _ a w h => ?_
        refine wp_ret ?_
        obtain rfl := Option.some.inj hF
        exact ⟨.inl rfl, ret1 h Tryd.results174 (r_tmp 0 rfl) [1] [(RRdr_e p_0 (some x2))] rfl rfl rfl⟩
      · refine wp_skip ?_
        show Code.wp Tryd.prog _ _ a w
        have hp := h.isp 2 rfl (fun Φ f w q => RRdr_lp Φ f w q)
        replace h := h.slotc 0 rfl (V' := lpVP p_0 0) (fun _ _ h => eq_lp h hp)
        replace h := h.sub [0, 1, 2] (by rfl)
        change SatL c [.slot 0 (lpVP p_0 0), .slot 1 (intVP .i64 a_1), .res (lb p_0 205 [one (strVP x2.f_S), one (intVP .i64 x2.f_Bad)])] a w at h
        obtain ⟨hv4, hF⟩ := ite_some hF
        refine wp_seq ?_
        refine reg mixed hn hG h [0, 1, 500, 2] (ov [0] (op_move q0) <| ov [500] (op_nilCheck q0 (ptr_lp _ _)) <| ov [500] (op_fieldAddr_lbm (p := p_0) (n := 1) 0 0 Tryd.underlying205 rfl Tryd.sizeOf9 (by decide) q0 rfl) <| ov [500, 2] (op_load_lb1 [] [one (intVP .i64 x2.f_Bad)] 1 Tryd.isAgg9 q0 rfl rfl) <| ov [1] (op_move q0) <| ov [501, 500] (op_slice_str (a := 0) (b := a_1) Tryd.underlying9 q0 rfl ⟨_, q1⟩ hv4) <| ov [500] (op_assign q0) .nil) fun _ a w h => ?_
        replace h := h.conv 3 rfl (R' := RRdr_e p_0 (some x2)) (RRdr_packo (o := (some x2)))
        replace h := h.slotc 0 rfl (fun _ _ h => lp_eqv h)
        replace h := h.sub [0, 1, 2, 3] (by rfl)
        change SatL c [.slot 0 (eqVP p_0), .slot 1 (intVP .i64 a_1), .slot 5 (strVP ((x2.f_S.take a_1.toNat).drop (0 : Int).toNat)), .res (RRdr_e p_0 (some x2))] a w at h
        show Code.wp Tryd.prog _ _ a w
        have hp := h.isp 3 rfl (fun Φ f w q => RRdr_lp Φ f w q)
        replace h := h.slotc 0 rfl (V' := lpVP p_0 0) (fun _ _ h => eq_lp h hp)
        replace h := h.sub [0, 1, 2, 3] (by rfl)
        change SatL c [.slot 0 (lpVP p_0 0), .slot 1 (intVP .i64 a_1), .slot 5 (strVP ((x2.f_S.take a_1.toNat).drop (0 : Int).toNat)), .res (lb p_0 205 [one (strVP x2.f_S), one (intVP .i64 x2.f_Bad)])] a w at h
        obtain ⟨hv5, hF⟩ := ite_some hF
        refine wp_seq ?_
        refine reg mixed hn hG h [2, 500] (ov [0] (op_move q0) <| ov [0] (op_move q0) <| ov [500] (op_nilCheck q0 (ptr_lp _ _)) <| ov [500] (op_fieldAddr_lbm (p := p_0) (n := 1) 0 0 Tryd.underlying205 rfl Tryd.sizeOf9 (by decide) q0 rfl) <| ov [500, 3] (op_load_lb1 [] [one (intVP .i64 x2.f_Bad)] 1 Tryd.isAgg9 q0 rfl rfl) <| ov [1] (op_move q0) <| ov [501, 500] (op_slice_str (a := a_1) (b := (x2.f_S.length : Int)) Tryd.underlying9 q0 ⟨_, q1⟩ rfl hv5) <| ov [506] (op_nilCheck q0 (ptr_lp _ _)) <| ov [500] (op_fieldAddr_lbm (p := p_0) (n := 1) 0 0 Tryd.underlying205 rfl Tryd.sizeOf9 (by decide) q0 rfl) <| ou [500, 502] 3 (op_store_lb [] [one (strVP x2.f_S)] [one (intVP .i64 x2.f_Bad)] [one (strVP ((x2.f_S.take (x2.f_S.length : Int).toNat).drop a_1.toNat))] Tryd.sizeOf9 q0 q1 (cells_one (one_str _)) rfl rfl rfl) .nil) fun _ a w h => ?_
        replace h := h.conv 1 rfl (R' := RRdr_e p_0 (some ⟨(x2.f_S.take (x2.f_S.length : Int).toNat).drop a_1.toNat, x2.f_Bad⟩)) (RRdr_packo (o := (some ⟨(x2.f_S.take (x2.f_S.length : Int).toNat).drop a_1.toNat, x2.f_Bad⟩)))
        replace h := h.sub [0, 1] (by rfl)
        change SatL c [.slot 5 (strVP ((x2.f_S.take a_1.toNat).drop (0 : Int).toNat)), .res (RRdr_e p_0 (some ⟨(x2.f_S.take (x2.f_S.length : Int).toNat).drop a_1.toNat, x2.f_Bad⟩))] a w at h
        show Code.wp Tryd.prog _ _ a w
        refine regS mixed hn hG h [500, 1] (ov [0] (op_move q0) <| ov [500] (op_assign q0) .nil) fun _ a w h => ?_
        refine wp_ret ?_
        obtain rfl := Option.some.inj hF
        exact ⟨.inl rfl, ret1 h Tryd.results174 (r_tmp 0 rfl) [1] [(RRdr_e p_0 (some ⟨(x2.f_S.take (x2.f_S.length : Int).toNat).drop a_1.toNat, x2.f_Bad⟩))] rfl rfl rfl⟩

def ref03_Reader_Number.b1 (r1 : (List UInt8) × O_RRdr) (x4 : Int) (x5 : Int) : Option (Flow (Int × O_RRdr) (Int × Int)) := (if (decide (x5 < (r1.1.length : Int))) = true then (if (0 : Int) ≤ x5 ∧ x5 < r1.1.length then some (.cont (IntKind.wrap .u64 ((IntKind.wrap .u64 (x4 * 256)) + (IntKind.wrap .u64 ((r1.1.getD x5.toNat 0).toNat))), IntKind.wrap .i64 (x5 + 1))) else none) else some (.brk (x4, x5)))
def ref03_Reader_Number (L_0 : O_RRdr) (a_1 : Int) : Option (Int × O_RRdr) := ((ref03_Reader_Take L_0 a_1).bind fun r1 => ((loopN (fun s : Int × Int => ref03_Reader_Number.b1 r1 s.1 s.2) (((r1.1.length : Int) - 0 : Int).toNat + 2) (0, 0)).bind fun cr => match cr with | .ret r => some r | .next (y16, y17) => some (y16, r1.2)))
theorem ref03_Reader_Number_ok {p_0 : Value} {L_0 : O_RRdr} {a_1 : Int} {r : Int × O_RRdr} (hF : ref03_Reader_Number L_0 a_1 = some r) : CallOk Tryd.prog KG 118 [(eqVP p_0), (intVP .i64 a_1)] [(RRdr_e p_0 (some L_0))] (fun _ => [RRdr_e p_0 (some r.2)]) (intVP .u64 r.1) := by
  refine CallOk.intro 25 Tryd.func118 rfl Tryd.ntmps118 (Nat.le_of_ble_eq_true rfl) ?_
  intro c a w hG hn h
  unfold ref03_Reader_Number at hF
  change SatL c [.slot 0 (eqVP p_0), .slot 1 (intVP .i64 a_1), .res (RRdr_e p_0 (some L_0))] a w at h
  refine regS mixed hn hG h [0, 1, 2] (ov [] (op_assign qi) .nil) fun _ a w h => ?_
  refine regS mixed hn hG h [0, 1, 500, 2] (ov [] (op_assign qi) .nil) fun _ a w h => ?_
  obtain ⟨r1, hr1, hF⟩ := bind_some hF
  refine regS mixed hn hG h [2, 500, 501] (ov [0] (op_move q0) <| ov [1] (op_move q0) <| oc [501, 500] [3] Tryd.call174 (ref03_Reader_Take_ok hr1) ⟨q0, q1, trivial⟩ <| ov [501] (op_assign q0) .nil) fun _ a w h => ?_
  refine wp_seq ?_
  refine regS mixed hn hG h [0, 1, 500, 2] (ov [] (op_assign qi) .nil) fun _ a w h => ?_
  refine wp_block ?_
  obtain ⟨cr12, hl13, hF⟩ := bind_some hF
  refine wp_mono (wp_loopN (R := Int × O_RRdr) (S := Int × Int) (fun s a w => SatL c [.slot 5 (intVP .u64 s.1), .slot 6 (strVP r1.1), .slot 7 (intVP .i64 s.2), .res (RRdr_e p_0 (some r1.2))] a w) (fun res e a w => match res with | .next s => e = .exit 0 ∧ SatL c [.slot 5 (intVP .u64 s.1), .res (RRdr_e p_0 (some r1.2))] a w | .ret r => e = .ret ∧ RetOk Tryd.prog Tryd.f118 c (intVP .u64 r.1) (fun _ => [RRdr_e p_0 (some r.2)]) a w) ?_ _ (0, 0) _ _ _ (h.sub [0, 1, 2, 3] (by rfl)) hl13) ?_
  · clear hl13 hF h
    intro s a w o h hF
    obtain ⟨x4, x5⟩ := s
    change ref03_Reader_Number.b1 r1 x4 x5 = some o at hF
    unfold ref03_Reader_Number.b1 at hF
    change SatL c [.slot 5 (intVP .u64 x4), .slot 6 (strVP r1.1), .slot 7 (intVP .i64 x5), .res (RRdr_e p_0 (some r1.2))] a w at h
    refine wp_seq ?_
    refine regS mixed hn hG h [0, 1, 2, 500, 3] (ov [2] (op_move q0) <| ov [1] (op_move q0) <| ov [500] (op_len_str Tryd.underlying9 q0) <| ov [502, 500] (op_bin bin_lss q0 q1) .nil) fun _ a w h => ?_
    refine cnd h hF 3 [0, 1, 2, 4] [0, 1, 2, 4] (fun hb10 hF h => ?_) (fun hb10 hF h => ?_)
    · refine wp_skip ?_
      show Code.wp Tryd.prog _ _ a w
      refine wp_seq ?_
      refine wp_block ?_
      obtain ⟨hv11, hF⟩ := ite_some hF
      refine reg mixed hn hG h [500, 1, 2, 3] (ov [0] (op_move q0) <| ov [500] (op_bin bin_mul q0 qi) <| ov [1] (op_move q0) <| ov [2] (op_move q0) <| ov [501, 500] (op_index_str Tryd.underlying9 q0 q1 hv11) <| ov [500] (op_convert_int Tryd.underlying5 Tryd.underlying27 q0) <| ov [504, 500] (op_bin bin_add q0 q1) <| od [500] 0 (op_assign q0) .nil) fun _ a w h => ?_
      show Code.wp Tryd.prog _ _ a w
      refine reg mixed hn hG h [0, 1, 500, 3] (ov [2] (op_move q0) <| ov [500] (op_bin bin_add q0 qi) <| od [500] 2 (op_assign q0) .nil) fun _ a w h => ?_
      obtain rfl := Option.some.inj hF
      exact ⟨rfl, h.sub [0, 1, 2, 3] (by rfl)⟩
    · refine wp_exit ?_
      obtain rfl := Option.some.inj hF
      exact ⟨exit_ne _, rfl, h.sub [0, 3] (by rfl)⟩
  · clear hl13
    intro e a w hq
    cases cr12 with
    | ret r14 =>
      obtain ⟨rfl, hq⟩ := hq
      obtain rfl := Option.some.inj hF
      exact ⟨.inl rfl, hq⟩
    | next s15 =>
      obtain ⟨y16, y17⟩ := s15
      obtain ⟨rfl, h⟩ := hq
      change SatL c [.slot 5 (intVP .u64 y16), .res (RRdr_e p_0 (some r1.2))] a w at h
      refine inBlock_at ?_
      show Code.wp Tryd.prog _ _ a w
      refine regS mixed hn hG h [500, 1] (ov [0] (op_move q0) <| ov [500] (op_assign q0) .nil) fun _ a w h => ?_
      refine wp_ret ?_
      obtain rfl := Option.some.inj hF
      exact ⟨.inl rfl, ret1 h Tryd.results118 (r_tmp 0 rfl) [1] [(RRdr_e p_0 (some r1.2))] rfl rfl rfl⟩

def ref03_Reader_Digest.b1 (r3 : (List UInt8) × O_RRdr) (x6 : Int) (x7 : List UInt8) : Option (Flow ((List UInt8) × O_RRdr) (Int × (List UInt8))) := (if (decide (x6 < (r3.1.length : Int))) = true then (if (0 : Int) ≤ x6 ∧ x6 < r3.1.length then (if (0 : Int) ≤ x6 ∧ x6 < 32 then some (.cont (IntKind.wrap .i64 (x6 + 1), x7.set x6.toNat (u8of ((r3.1.getD x6.toNat 0).toNat)))) else none) else none) else some (.brk (x6, x7)))
def ref03_Reader_Digest (L_0 : O_RRdr) : Option ((List UInt8) × O_RRdr) := ((ref03_Reader_Take L_0 32).bind fun r3 => ((loopN (fun s : Int × (List UInt8) => ref03_Reader_Digest.b1 r3 s.1 s.2) (((r3.1.length : Int) - 0 : Int).toNat + 2) (0, (List.replicate 32 0))).bind fun cr => match cr with | .ret r => some r | .next (y20, y21) => some (y21, r3.2)))
theorem ref03_Reader_Digest_ok {p_0 : Value} {L_0 : O_RRdr} {r : (List UInt8) × O_RRdr} (hF : ref03_Reader_Digest L_0 = some r) : CallOk Tryd.prog KG 119 [(eqVP p_0)] [(RRdr_e p_0 (some L_0))] (fun _ => [RRdr_e p_0 (some r.2)]) (aggVP [bytesCk 32 r.1]) := by
  refine CallOk.intro 20 Tryd.func119 rfl Tryd.ntmps119 (Nat.le_of_ble_eq_true rfl) ?_
  intro c a w hG hn h
  unfold ref03_Reader_Digest at hF
  change SatL c [.slot 0 (eqVP p_0), .res (RRdr_e p_0 (some L_0))] a w at h
  refine regS mixed hn hG h [0, 501, 1, 500] (ob [] (op_alloc Tryd.zeroValue25 z25) .nil) fun b1 a w h => ?_
  refine regS mixed hn hG h [0, 1, 501, 2, 3, 500] (ob [] (op_alloc Tryd.zeroValue25 z25) .nil) fun b2 a w h => ?_
  obtain ⟨r3, hr3, hF⟩ := bind_some hF
  refine regS mixed hn hG h [1, 2, 500, 4, 5, 501] (ov [0] (op_move q0) <| oc [500] [3] Tryd.call174 (ref03_Reader_Take_ok hr3) ⟨q0, qi, trivial⟩ <| ov [501] (op_assign q0) .nil) fun _ a w h => ?_
  refine wp_seq ?_
  refine regS mixed hn hG h [0, 1, 2, 500, 3, 4, 5] (ov [] (op_assign qi) .nil) fun _ a w h => ?_
  refine wp_block ?_
  obtain ⟨cr16, hl17, hF⟩ := bind_some hF
  refine wp_mono (wp_loopN (R := (List UInt8) × O_RRdr) (S := Int × (List UInt8)) (fun s a w => SatL c [.slot 2 (lpVP (b1 0) 0), .slot 3 (lpVP (b2 0) 0), .slot 4 (strVP r3.1), .slot 5 (intVP .i64 s.1), .res (lb (b1 0) 25 [bytesCk 32 (List.replicate 32 0)]), .res (lb (b2 0) 25 [bytesCk 32 s.2]), .res (RRdr_e p_0 (some r3.2))] a w) (fun res e a w => match res with | .next s => e = .exit 0 ∧ SatL c [.slot 2 (lpVP (b1 0) 0), .slot 3 (lpVP (b2 0) 0), .res (lb (b1 0) 25 [bytesCk 32 (List.replicate 32 0)]), .res (lb (b2 0) 25 [bytesCk 32 s.2]), .res (RRdr_e p_0 (some r3.2))] a w | .ret r => e = .ret ∧ RetOk Tryd.prog Tryd.f119 c (aggVP [bytesCk 32 r.1]) (fun _ => [RRdr_e p_0 (some r.2)]) a w) ?_ _ (0, (List.replicate 32 0)) _ _ _ (h.sub [0, 1, 2, 3, 4, 5, 6] (by rfl)) hl17) ?_
  · clear hl17 hF h
    intro s a w o h hF
    obtain ⟨x6, x7⟩ := s
    change ref03_Reader_Digest.b1 r3 x6 x7 = some o at hF
    unfold ref03_Reader_Digest.b1 at hF
    change SatL c [.slot 2 (lpVP (b1 0) 0), .slot 3 (lpVP (b2 0) 0), .slot 4 (strVP r3.1), .slot 5 (intVP .i64 x6), .res (lb (b1 0) 25 [bytesCk 32 (List.replicate 32 0)]), .res (lb (b2 0) 25 [bytesCk 32 x7]), .res (RRdr_e p_0 (some r3.2))] a w at h
    refine wp_seq ?_
    refine regS mixed hn hG h [0, 1, 2, 3, 500, 4, 5, 6] (ov [3] (op_move q0) <| ov [2] (op_move q0) <| ov [500] (op_len_str Tryd.underlying9 q0) <| ov [502, 500] (op_bin bin_lss q0 q1) .nil) fun _ a w h => ?_
    refine cnd h hF 4 [0, 1, 2, 3, 5, 6, 7] [0, 1, 2, 3, 5, 6, 7] (fun hb13 hF h => ?_) (fun hb13 hF h => ?_)
    · refine wp_skip ?_
      show Code.wp Tryd.prog _ _ a w
      refine wp_seq ?_
      refine wp_block ?_
      obtain ⟨hv14, hF⟩ := ite_some hF
      obtain ⟨hv15, hF⟩ := ite_some hF
      refine reg mixed hn hG h [0, 1, 2, 3, 4, 500, 6] (ov [3] (op_move q0) <| ov [2] (op_move q0) <| ov [3] (op_move q0) <| ov [501, 500] (op_index_str Tryd.underlying9 q0 q1 hv14) <| ov [1, 503] (op_indexAddr_lb Tryd.underlying25 Tryd.sizeOf5 q0 q1 hv15) <| ou [500, 501] 5 (op_store_lbB (i := x6) [] [] Tryd.sizeOf5 q0 q1 rfl hv15) .nil) fun _ a w h => ?_
      show Code.wp Tryd.prog _ _ a w
      refine reg mixed hn hG h [0, 1, 2, 500, 4, 5, 6] (ov [3] (op_move q0) <| ov [500] (op_bin bin_add q0 qi) <| od [500] 3 (op_assign q0) .nil) fun _ a w h => ?_
      obtain rfl := Option.some.inj hF
      exact ⟨rfl, h.sub [0, 1, 2, 3, 4, 5, 6] (by rfl)⟩
    · refine wp_exit ?_
      obtain rfl := Option.some.inj hF
      exact ⟨exit_ne _, rfl, h.sub [0, 1, 4, 5, 6] (by rfl)⟩
  · clear hl17
    intro e a w hq
    cases cr16 with
    | ret r18 =>
      obtain ⟨rfl, hq⟩ := hq
      obtain rfl := Option.some.inj hF
      exact ⟨.inl rfl, hq⟩
    | next s19 =>
      obtain ⟨y20, y21⟩ := s19
      obtain ⟨rfl, h⟩ := hq
      change SatL c [.slot 2 (lpVP (b1 0) 0), .slot 3 (lpVP (b2 0) 0), .res (lb (b1 0) 25 [bytesCk 32 (List.replicate 32 0)]), .res (lb (b2 0) 25 [bytesCk 32 y21]), .res (RRdr_e p_0 (some r3.2))] a w at h
      refine inBlock_at ?_
      show Code.wp Tryd.prog _ _ a w
      refine regS mixed hn hG h [0, 500, 4] (ov [1, 3] (op_load_w 1 Tryd.isAgg25 Tryd.sizeOf25 q0) <| ou [0, 500] 2 (op_store_w Tryd.sizeOf25 q0 q1 (cells_agg _)) .nil) fun _ a w h => ?_
      refine wp_ret ?_
      obtain rfl := Option.some.inj hF
      exact ⟨.inl rfl, ret1 h Tryd.results119 (r_cell 0 1 rfl rfl Tryd.isAgg25 Tryd.sizeOf25 rfl) [2] [(RRdr_e p_0 (some r3.2))] rfl rfl rfl⟩

def ref21_Known (a_0 : List UInt8) : Option (S_ref21_Note × Bool) := (if (!decide ((a_0.length : Int) = (117 : Int))) = true then some ((S_ref21_Note.mk (0 : Int) (0 : Int) (0 : Int) (List.replicate 32 0) (List.replicate 32 0) (0 : Int)), false) else ((ref03_Reader_Number ⟨a_0, (0 : Int)⟩ 1).bind fun r5 => ((ref03_Reader_Number r5.2 4).bind fun r6 => ((ref03_Reader_Number r6.2 8).bind fun r7 => ((ref03_Reader_Digest r7.2).bind fun r8 => ((ref03_Reader_Digest r8.2).bind fun r9 => ((ref03_Reader_Number r9.2 8).bind fun r10 => ((ref21_Bytes (S_ref21_Note.mk (IntKind.wrap .u8 r5.1) (IntKind.wrap .u32 r6.1) r7.1 r8.1 r9.1 r10.1)).bind fun r11 => (if (!decide (r11 = a_0)) = true then some ((S_ref21_Note.mk (0 : Int) (0 : Int) (0 : Int) (List.replicate 32 0) (List.replicate 32 0) (0 : Int)), false) else some ((S_ref21_Note.mk (IntKind.wrap .u8 r5.1) (IntKind.wrap .u32 r6.1) r7.1 r8.1 r9.1 r10.1), true))))))))))
theorem ref21_Known_ok {a_0 : List UInt8} {r : S_ref21_Note × Bool} (hF : ref21_Known a_0 = some r) : CallOk Tryd.prog KG 136 [(strVP a_0)] [] (fun _ => []) (tupVP [(aggVP [one (intVP .u8 r.1.f_Kind), one (intVP .u32 r.1.f_Home), one (intVP .u64 r.1.f_Next), bytesCk 32 r.1.f_Old, bytesCk 32 r.1.f_New, one (intVP .u64 r.1.f_Sent)]), (boolVP r.2)]) := by
  refine CallOk.intro 39 Tryd.func136 rfl Tryd.ntmps136 (Nat.le_of_ble_eq_true rfl) ?_
  intro c a w hG hn h
  unfold ref21_Known at hF
  change SatL c [.slot 0 (strVP a_0)] a w at h
  refine regS mixed hn hG h [0, 502, 501] (ob [] (op_alloc Tryd.zeroValue142 z142) <| ov [] (op_assign qb) .nil) fun b1 a w h => ?_
  refine regS mixed hn hG h [0, 1, 501, 2, 500] (ob [] (op_alloc Tryd.zeroValue142 z142) .nil) fun b2 a w h => ?_
  refine wp_seq ?_
  refine regS mixed hn hG h [0, 1, 2, 500, 3, 4] (ov [0] (op_move q0) <| ov [500] (op_len_str Tryd.underlying9 q0) <| ov [500] (op_bin bin_neq q0 qi) .nil) fun _ a w h => ?_
  refine cnd h hF 3 [1, 2, 4, 5] [0, 1, 2, 4, 5] (fun hb3 hF h => ?_) (fun hb3 hF h => ?_)
  · refine regS mixed hn hG h [0, 500, 501] (ov [1, 3] (op_load_w 1 Tryd.isAgg142 Tryd.sizeOf142 q0) <| ou [0, 500] 2 (op_store_w Tryd.sizeOf142 q0 q1 (cells_agg _)) <| ov [] (op_assign qb) .nil) fun _ a w h => ?_
    refine wp_ret ?_
    obtain rfl := Option.some.inj hF
    exact ⟨.inl rfl, retn h (rs := [.cell 2 142, .tmp 3]) (Vs := [(aggVP [one (intVP .u8 ((S_ref21_Note.mk (0 : Int) (0 : Int) (0 : Int) (List.replicate 32 0) (List.replicate 32 0) (0 : Int)).f_Kind)), one (intVP .u32 ((S_ref21_Note.mk (0 : Int) (0 : Int) (0 : Int) (List.replicate 32 0) (List.replicate 32 0) (0 : Int)).f_Home)), one (intVP .u64 ((S_ref21_Note.mk (0 : Int) (0 : Int) (0 : Int) (List.replicate 32 0) (List.replicate 32 0) (0 : Int)).f_Next)), bytesCk 32 ((S_ref21_Note.mk (0 : Int) (0 : Int) (0 : Int) (List.replicate 32 0) (List.replicate 32 0) (0 : Int)).f_Old), bytesCk 32 ((S_ref21_Note.mk (0 : Int) (0 : Int) (0 : Int) (List.replicate 32 0) (List.replicate 32 0) (0 : Int)).f_New), one (intVP .u64 ((S_ref21_Note.mk (0 : Int) (0 : Int) (0 : Int) (List.replicate 32 0) (List.replicate 32 0) (0 : Int)).f_Sent))]), (boolVP false)]) Tryd.results136 (by decide) ⟨(r_cell 0 2 rfl rfl Tryd.isAgg142 Tryd.sizeOf142 rfl), (r_tmp 1 rfl), trivial⟩ [] [] rfl rfl rfl⟩
  · refine wp_skip ?_
    show Code.wp Tryd.prog _ _ a w
    refine regS mixed hn hG h [0, 1, 2, 500, 3, 4, 501] (ov [0] (op_move q0) <| ov [500] (op_build [(0, .tmp 10)] rfl bu205 zo205 ⟨[], [one (strVP [])], [one (intVP .i64 (0 : Int))], [one (strVP a_0)], _, rfl, rfl, rfl, q0, (cells_one (one_str _)), rfl⟩) <| ob [500] (op_box q0 (cells_agg _)) <| og [501] [] [.slot 5 2 100000 (fun v1_ _ => (lpVP v1_ 0))] (fun {β} => (GOk.plain (op_assign (V := (lpVP (β 2) 0)) q0) rfl)) .nil) fun b4 a w h => ?_
    replace h := h.conv 6 rfl (R' := RRdr_e (b4 2) (some ⟨a_0, (0 : Int)⟩)) (RRdr_packo (o := (some ⟨a_0, (0 : Int)⟩)))
    replace h := h.slotc 3 rfl (fun _ _ h => lp_eqv h)
    replace h := h.sub [0, 1, 2, 3, 4, 5, 6] (by rfl)
    change SatL c [.slot 0 (strVP a_0), .slot 2 (lpVP (b1 0) 0), .slot 4 (lpVP (b2 0) 0), .slot 5 (eqVP (b4 2)), .res (lb (b1 0) 142 [one (intVP .u8 ((S_ref21_Note.mk (0 : Int) (0 : Int) (0 : Int) (List.replicate 32 0) (List.replicate 32 0) (0 : Int)).f_Kind)), one (intVP .u32 ((S_ref21_Note.mk (0 : Int) (0 : Int) (0 : Int) (List.replicate 32 0) (List.replicate 32 0) (0 : Int)).f_Home)), one (intVP .u64 ((S_ref21_Note.mk (0 : Int) (0 : Int) (0 : Int) (List.replicate 32 0) (List.replicate 32 0) (0 : Int)).f_Next)), bytesCk 32 ((S_ref21_Note.mk (0 : Int) (0 : Int) (0 : Int) (List.replicate 32 0) (List.replicate 32 0) (0 : Int)).f_Old), bytesCk 32 ((S_ref21_Note.mk (0 : Int) (0 : Int) (0 : Int) (List.replicate 32 0) (List.replicate 32 0) (0 : Int)).f_New), one (intVP .u64 ((S_ref21_Note.mk (0 : Int) (0 : Int) (0 : Int) (List.replicate 32 0) (List.replicate 32 0) (0 : Int)).f_Sent))]), .res (lb (b2 0) 142 [one (intVP .u8 ((S_ref21_Note.mk (0 : Int) (0 : Int) (0 : Int) (List.replicate 32 0) (List.replicate 32 0) (0 : Int)).f_Kind)), one (intVP .u32 ((S_ref21_Note.mk (0 : Int) (0 : Int) (0 : Int) (List.replicate 32 0) (List.replicate 32 0) (0 : Int)).f_Home)), one (intVP .u64 ((S_ref21_Note.mk (0 : Int) (0 : Int) (0 : Int) (List.replicate 32 0) (List.replicate 32 0) (0 : Int)).f_Next)), bytesCk 32 ((S_ref21_Note.mk (0 : Int) (0 : Int) (0 : Int) (List.replicate 32 0) (List.replicate 32 0) (0 : Int)).f_Old), bytesCk 32 ((S_ref21_Note.mk (0 : Int) (0 : Int) (0 : Int) (List.replicate 32 0) (List.replicate 32 0) (0 : Int)).f_New), one (intVP .u64 ((S_ref21_Note.mk (0 : Int) (0 : Int) (0 : Int) (List.replicate 32 0) (List.replicate 32 0) (0 : Int)).f_Sent))]), .res (RRdr_e (b4 2) (some ⟨a_0, (0 : Int)⟩))] a w at h
    obtain ⟨r5, hr5, hF⟩ := bind_some hF
    refine regS mixed hn hG h [0, 1, 2, 3, 4, 500, 503] (ov [3] (op_move q0) <| oc [500] [6] Tryd.call118 (ref03_Reader_Number_ok hr5) ⟨q0, qi, trivial⟩ <| ov [501] (op_convert_int Tryd.underlying27 Tryd.underlying5 q0) <| ov [2] (op_fieldAddr_lbm (p := (b2 0)) (n := 1) 0 0 Tryd.underlying142 rfl Tryd.sizeOf5 (by decide) q0 rfl) <| ou [500, 501] 5 (op_store_lb [] [one (intVP .u8 ((S_ref21_Note.mk (0 : Int) (0 : Int) (0 : Int) (List.replicate 32 0) (List.replicate 32 0) (0 : Int)).f_Kind))] [one (intVP .u32 ((S_ref21_Note.mk (0 : Int) (0 : Int) (0 : Int) (List.replicate 32 0) (List.replicate 32 0) (0 : Int)).f_Home)), one (intVP .u64 ((S_ref21_Note.mk (0 : Int) (0 : Int) (0 : Int) (List.replicate 32 0) (List.replicate 32 0) (0 : Int)).f_Next)), bytesCk 32 ((S_ref21_Note.mk (0 : Int) (0 : Int) (0 : Int) (List.replicate 32 0) (List.replicate 32 0) (0 : Int)).f_Old), bytesCk 32 ((S_ref21_Note.mk (0 : Int) (0 : Int) (0 : Int) (List.replicate 32 0) (List.replicate 32 0) (0 : Int)).f_New), one (intVP .u64 ((S_ref21_Note.mk (0 : Int) (0 : Int) (0 : Int) (List.replicate 32 0) (List.replicate 32 0) (0 : Int)).f_Sent))] [one (intVP .u8 (IntKind.wrap .u8 r5.1))] Tryd.sizeOf5 q0 q1 (cells_one (one_int _ _)) rfl rfl rfl) .nil) fun _ a w h => ?_
    obtain ⟨r6, hr6, hF⟩ := bind_some hF
    refine regS mixed hn hG h [0, 1, 2, 3, 4, 500, 503] (ov [3] (op_move q0) <| oc [500] [6] Tryd.call118 (ref03_Reader_Number_ok hr6) ⟨q0, qi, trivial⟩ <| ov [501] (op_convert_int Tryd.underlying27 Tryd.underlying22 q0) <| ov [2] (op_fieldAddr_lbm (p := (b2 0)) (n := 1) 0 1 Tryd.underlying142 rfl Tryd.sizeOf22 (by decide) q0 rfl) <| ou [500, 501] 5 (op_store_lb [one (intVP .u8 (IntKind.wrap .u8 r5.1))] [one (intVP .u32 ((S_ref21_Note.mk (0 : Int) (0 : Int) (0 : Int) (List.replicate 32 0) (List.replicate 32 0) (0 : Int)).f_Home))] [one (intVP .u64 ((S_ref21_Note.mk (0 : Int) (0 : Int) (0 : Int) (List.replicate 32 0) (List.replicate 32 0) (0 : Int)).f_Next)), bytesCk 32 ((S_ref21_Note.mk (0 : Int) (0 : Int) (0 : Int) (List.replicate 32 0) (List.replicate 32 0) (0 : Int)).f_Old), bytesCk 32 ((S_ref21_Note.mk (0 : Int) (0 : Int) (0 : Int) (List.replicate 32 0) (List.replicate 32 0) (0 : Int)).f_New), one (intVP .u64 ((S_ref21_Note.mk (0 : Int) (0 : Int) (0 : Int) (List.replicate 32 0) (List.replicate 32 0) (0 : Int)).f_Sent))] [one (intVP .u32 (IntKind.wrap .u32 r6.1))] Tryd.sizeOf22 q0 q1 (cells_one (one_int _ _)) rfl rfl rfl) .nil) fun _ a w h => ?_
    obtain ⟨r7, hr7, hF⟩ := bind_some hF
    refine regS mixed hn hG h [0, 1, 2, 3, 4, 500, 502] (ov [3] (op_move q0) <| oc [500] [6] Tryd.call118 (ref03_Reader_Number_ok hr7) ⟨q0, qi, trivial⟩ <| ov [2] (op_fieldAddr_lbm (p := (b2 0)) (n := 1) 0 2 Tryd.underlying142 rfl Tryd.sizeOf27 (by decide) q0 rfl) <| ou [500, 502] 5 (op_store_lb [one (intVP .u8 (IntKind.wrap .u8 r5.1)), one (intVP .u32 (IntKind.wrap .u32 r6.1))] [one (intVP .u64 ((S_ref21_Note.mk (0 : Int) (0 : Int) (0 : Int) (List.replicate 32 0) (List.replicate 32 0) (0 : Int)).f_Next))] [bytesCk 32 ((S_ref21_Note.mk (0 : Int) (0 : Int) (0 : Int) (List.replicate 32 0) (List.replicate 32 0) (0 : Int)).f_Old), bytesCk 32 ((S_ref21_Note.mk (0 : Int) (0 : Int) (0 : Int) (List.replicate 32 0) (List.replicate 32 0) (0 : Int)).f_New), one (intVP .u64 ((S_ref21_Note.mk (0 : Int) (0 : Int) (0 : Int) (List.replicate 32 0) (List.replicate 32 0) (0 : Int)).f_Sent))] [one (intVP .u64 r7.1)] Tryd.sizeOf27 q0 q1 (cells_one (one_int _ _)) rfl rfl rfl) .nil) fun _ a w h => ?_
    obtain ⟨r8, hr8, hF⟩ := bind_some hF
    refine regS mixed hn hG h [0, 1, 2, 3, 4, 500, 502] (ov [3] (op_move q0) <| oc [500] [6] Tryd.call119 (ref03_Reader_Digest_ok hr8) ⟨q0, trivial⟩ <| ov [2] (op_fieldAddr_lbm (p := (b2 0)) (n := 32) 0 3 Tryd.underlying142 rfl Tryd.sizeOf25 (by decide) q0 rfl) <| ou [500, 502] 5 (op_store_lb [one (intVP .u8 (IntKind.wrap .u8 r5.1)), one (intVP .u32 (IntKind.wrap .u32 r6.1)), one (intVP .u64 r7.1)] [bytesCk 32 ((S_ref21_Note.mk (0 : Int) (0 : Int) (0 : Int) (List.replicate 32 0) (List.replicate 32 0) (0 : Int)).f_Old)] [bytesCk 32 ((S_ref21_Note.mk (0 : Int) (0 : Int) (0 : Int) (List.replicate 32 0) (List.replicate 32 0) (0 : Int)).f_New), one (intVP .u64 ((S_ref21_Note.mk (0 : Int) (0 : Int) (0 : Int) (List.replicate 32 0) (List.replicate 32 0) (0 : Int)).f_Sent))] [bytesCk 32 r8.1] Tryd.sizeOf25 q0 q1 (cells_agg _) rfl rfl rfl) .nil) fun _ a w h => ?_
    obtain ⟨r9, hr9, hF⟩ := bind_some hF
    refine regS mixed hn hG h [0, 1, 2, 3, 4, 500, 502] (ov [3] (op_move q0) <| oc [500] [6] Tryd.call119 (ref03_Reader_Digest_ok hr9) ⟨q0, trivial⟩ <| ov [2] (op_fieldAddr_lbm (p := (b2 0)) (n := 32) 0 35 Tryd.underlying142 rfl Tryd.sizeOf25 (by decide) q0 rfl) <| ou [500, 502] 5 (op_store_lb [one (intVP .u8 (IntKind.wrap .u8 r5.1)), one (intVP .u32 (IntKind.wrap .u32 r6.1)), one (intVP .u64 r7.1), bytesCk 32 r8.1] [bytesCk 32 ((S_ref21_Note.mk (0 : Int) (0 : Int) (0 : Int) (List.replicate 32 0) (List.replicate 32 0) (0 : Int)).f_New)] [one (intVP .u64 ((S_ref21_Note.mk (0 : Int) (0 : Int) (0 : Int) (List.replicate 32 0) (List.replicate 32 0) (0 : Int)).f_Sent))] [bytesCk 32 r9.1] Tryd.sizeOf25 q0 q1 (cells_agg _) rfl rfl rfl) .nil) fun _ a w h => ?_
    obtain ⟨r10, hr10, hF⟩ := bind_some hF
    refine regS mixed hn hG h [0, 1, 2, 4, 500, 502] (ov [3] (op_move q0) <| oc [500] [6] Tryd.call118 (ref03_Reader_Number_ok hr10) ⟨q0, qi, trivial⟩ <| ov [2] (op_fieldAddr_lbm (p := (b2 0)) (n := 1) 0 67 Tryd.underlying142 rfl Tryd.sizeOf27 (by decide) q0 rfl) <| ou [500, 502] 5 (op_store_lb [one (intVP .u8 (IntKind.wrap .u8 r5.1)), one (intVP .u32 (IntKind.wrap .u32 r6.1)), one (intVP .u64 r7.1), bytesCk 32 r8.1, bytesCk 32 r9.1] [one (intVP .u64 ((S_ref21_Note.mk (0 : Int) (0 : Int) (0 : Int) (List.replicate 32 0) (List.replicate 32 0) (0 : Int)).f_Sent))] [] [one (intVP .u64 r10.1)] Tryd.sizeOf27 q0 q1 (cells_one (one_int _ _)) rfl rfl rfl) .nil) fun _ a w h => ?_
    refine wp_seq ?_
    obtain ⟨r11, hr11, hF⟩ := bind_some hF
    refine regS mixed hn hG h [1, 2, 500, 3, 4, 5] (ov [2, 4] (op_load_w 1 Tryd.isAgg142 Tryd.sizeOf142 q0) <| oc [500] [] Tryd.call73 (ref21_Bytes_ok hr11) ⟨q0, trivial⟩ <| ov [0] (op_move q0) <| ov [501, 500] (op_bin bin_sneq q0 q1) .nil) fun _ a w h => ?_
    refine cnd h hF 2 [0, 3, 5] [0, 1, 3, 4, 5] (fun hb12 hF h => ?_) (fun hb12 hF h => ?_)
    · refine regS mixed hn hG h [0, 500, 501, 2] (ov [] (op_build [] rfl bu142 z142 rfl) <| ou [0, 500] 1 (op_store_w Tryd.sizeOf142 q0 q1 (cells_agg _)) <| ov [] (op_assign qb) .nil) fun _ a w h => ?_
      refine wp_ret ?_
      obtain rfl := Option.some.inj hF
      exact ⟨.inl rfl, retn h (rs := [.cell 2 142, .tmp 3]) (Vs := [(aggVP [one (intVP .u8 (0 : Int)), one (intVP .u32 (0 : Int)), one (intVP .u64 (0 : Int)), bytesCk 32 (List.replicate 32 0), bytesCk 32 (List.replicate 32 0), one (intVP .u64 (0 : Int))]), (boolVP false)]) Tryd.results136 (by decide) ⟨(r_cell 0 2 rfl rfl Tryd.isAgg142 Tryd.sizeOf142 rfl), (r_tmp 1 rfl), trivial⟩ [] [] rfl rfl rfl⟩
    · refine wp_skip ?_
      show Code.wp Tryd.prog _ _ a w
      refine regS mixed hn hG h [0, 500, 501, 4] (ov [1, 3] (op_load_w 1 Tryd.isAgg142 Tryd.sizeOf142 q0) <| ou [0, 500] 2 (op_store_w Tryd.sizeOf142 q0 q1 (cells_agg _)) <| ov [] (op_assign qb) .nil) fun _ a w h => ?_
      refine wp_ret ?_
      obtain rfl := Option.some.inj hF
      exact ⟨.inl rfl, retn h (rs := [.cell 2 142, .tmp 3]) (Vs := [(aggVP [one (intVP .u8 (IntKind.wrap .u8 r5.1)), one (intVP .u32 (IntKind.wrap .u32 r6.1)), one (intVP .u64 r7.1), bytesCk 32 r8.1, bytesCk 32 r9.1, one (intVP .u64 r10.1)]), (boolVP true)]) Tryd.results136 (by decide) ⟨(r_cell 0 2 rfl rfl Tryd.isAgg142 Tryd.sizeOf142 rfl), (r_tmp 1 rfl), trivial⟩ [] [] rfl rfl rfl⟩

def ref21_Read.j1 (a_1 : Int) (a_2 : Int) (r2 : S_ref21_Note × Bool) (x4 : Bool) : Option S_ref21_Note := (if x4 = true then some r2.1 else some (S_ref21_Note.mk a_1 a_2 ((S_ref21_Note.mk (0 : Int) (0 : Int) (0 : Int) (List.replicate 32 0) (List.replicate 32 0) (0 : Int)).f_Next) ((S_ref21_Note.mk (0 : Int) (0 : Int) (0 : Int) (List.replicate 32 0) (List.replicate 32 0) (0 : Int)).f_Old) ((S_ref21_Note.mk (0 : Int) (0 : Int) (0 : Int) (List.replicate 32 0) (List.replicate 32 0) (0 : Int)).f_New) ((S_ref21_Note.mk (0 : Int) (0 : Int) (0 : Int) (List.replicate 32 0) (List.replicate 32 0) (0 : Int)).f_Sent)))
def ref21_Read (a_0 : List UInt8) (a_1 : Int) (a_2 : Int) : Option S_ref21_Note := ((ref21_Known a_0).bind fun r2 => (if r2.2 = true then (if (decide (r2.1.f_Kind = a_1)) = true then ref21_Read.j1 a_1 a_2 r2 (decide (r2.1.f_Home = a_2)) else ref21_Read.j1 a_1 a_2 r2 false) else ref21_Read.j1 a_1 a_2 r2 false))
theorem ref21_Read_ok {a_0 : List UInt8} {a_1 : Int} {a_2 : Int} {r : S_ref21_Note} (hF : ref21_Read a_0 a_1 a_2 = some r) : CallOk Tryd.prog KG 72 [(strVP a_0), (intVP .u8 a_1), (intVP .u32 a_2)] [] (fun _ => []) (aggVP [one (intVP .u8 r.f_Kind), one (intVP .u32 r.f_Home), one (intVP .u64 r.f_Next), bytesCk 32 r.f_Old, bytesCk 32 r.f_New, one (intVP .u64 r.f_Sent)]) := by
  refine CallOk.intro 34 Tryd.func72 rfl Tryd.ntmps72 (Nat.le_of_ble_eq_true rfl) ?_
  intro c a w hG hn h
  unfold ref21_Read at hF
  change SatL c [.slot 0 (strVP a_0), .slot 1 (intVP .u8 a_1), .slot 2 (intVP .u32 a_2)] a w at h
  refine regS mixed hn hG h [0, 1, 2, 501, 500] (ob [] (op_alloc Tryd.zeroValue142 z142) .nil) fun b1 a w h => ?_
  obtain ⟨r2, hr2, hF⟩ := bind_some hF
  refine regS mixed hn hG h [1, 2, 3, 503, 500, 4, 501] (ov [0] (op_move q0) <| oc [500] [] Tryd.call136 (ref21_Known_ok hr2) ⟨q0, trivial⟩ <| ov [500] (op_move q0) <| ov [500] (op_extract q0 rfl) <| ov [501] (op_extract q0 rfl) <| ob [] (op_alloc Tryd.zeroValue142 z142) <| og [501, 503] [500] [.res 5 100000 (fun v1_ _ => (lb (v1_) 142 [one (intVP .u8 r2.1.f_Kind), one (intVP .u32 r2.1.f_Home), one (intVP .u64 r2.1.f_Next), bytesCk 32 r2.1.f_Old, bytesCk 32 r2.1.f_New, one (intVP .u64 r2.1.f_Sent)]))] (GOk.plain (op_store_w Tryd.sizeOf142 q0 q1 (cells_agg _)) rfl) <| ov [503] (op_assign q0) .nil) fun b3 a w h => ?_
  refine wp_seq ?_
  refine wp_seq ?_
  refine wp_cut (fun a w => ∃ (x4 : Bool), ref21_Read.j1 a_1 a_2 r2 x4 = some r ∧ SatL c [.slot 1 (intVP .u8 a_1), .slot 2 (intVP .u32 a_2), .slot 6 (lpVP (b1 0) 0), .slot 7 (lpVP (b3 5) 0), .slot 27 (boolVP x4), .res (lb (b1 0) 142 [one (intVP .u8 ((S_ref21_Note.mk (0 : Int) (0 : Int) (0 : Int) (List.replicate 32 0) (List.replicate 32 0) (0 : Int)).f_Kind)), one (intVP .u32 ((S_ref21_Note.mk (0 : Int) (0 : Int) (0 : Int) (List.replicate 32 0) (List.replicate 32 0) (0 : Int)).f_Home)), one (intVP .u64 ((S_ref21_Note.mk (0 : Int) (0 : Int) (0 : Int) (List.replicate 32 0) (List.replicate 32 0) (0 : Int)).f_Next)), bytesCk 32 ((S_ref21_Note.mk (0 : Int) (0 : Int) (0 : Int) (List.replicate 32 0) (List.replicate 32 0) (0 : Int)).f_Old), bytesCk 32 ((S_ref21_Note.mk (0 : Int) (0 : Int) (0 : Int) (List.replicate 32 0) (List.replicate 32 0) (0 : Int)).f_New), one (intVP .u64 ((S_ref21_Note.mk (0 : Int) (0 : Int) (0 : Int) (List.replicate 32 0) (List.replicate 32 0) (0 : Int)).f_Sent))]), .res (lb (b3 5) 142 [one (intVP .u8 r2.1.f_Kind), one (intVP .u32 r2.1.f_Home), one (intVP .u64 r2.1.f_Next), bytesCk 32 r2.1.f_Old, bytesCk 32 r2.1.f_New, one (intVP .u64 r2.1.f_Sent)])] a w) ?_ ?_
  · rcases Bool.eq_false_or_eq_true r2.2 with hb7 | hb7
    · replace hF := tt_of hb7 hF
      rcases Bool.eq_false_or_eq_true (decide (r2.1.f_Kind = a_1)) with hb8 | hb8
      · replace hF := tt_of hb8 hF
        refine reg mixed hn hG h [0, 1, 2, 3, 500, 5, 6] (ov [4] (op_move q0) <| ov [500] (op_move q0) <| oe [500, 3] [] (GOk.on_eq hb7 rfl rfl rfl (op_fieldAddr_lbm (p := (b3 5)) (n := 1) 0 0 Tryd.underlying142 rfl Tryd.sizeOf5 (by decide) q0 rfl)) <| oe [501, 500, 6] [] (GOk.on_eq hb7 rfl rfl rfl (op_load_lb1 [] [one (intVP .u32 r2.1.f_Home), one (intVP .u64 r2.1.f_Next), bytesCk 32 r2.1.f_Old, bytesCk 32 r2.1.f_New, one (intVP .u64 r2.1.f_Sent)] 1 Tryd.isAgg5 q0 rfl rfl)) <| oe [502, 0] [] (GOk.on_eq hb7 rfl rfl rfl (op_move q0)) <| oe [503, 501, 500] [] (GOk.on_eq hb7 rfl rfl rfl (op_bin bin_eql q0 q1)) <| ov [504, 500] (op_pick_t hb7 q0 q1) <| ov [500] (op_move q0) <| oe [500, 3] [] (GOk.on_eq hb8 rfl rfl rfl (op_fieldAddr_lbm (p := (b3 5)) (n := 1) 0 1 Tryd.underlying142 rfl Tryd.sizeOf22 (by decide) q0 rfl)) <| oe [501, 500, 6] [] (GOk.on_eq hb8 rfl rfl rfl (op_load_lb1 [one (intVP .u8 r2.1.f_Kind)] [one (intVP .u64 r2.1.f_Next), bytesCk 32 r2.1.f_Old, bytesCk 32 r2.1.f_New, one (intVP .u64 r2.1.f_Sent)] 1 Tryd.isAgg22 q0 rfl rfl)) <| oe [502, 1] [] (GOk.on_eq hb8 rfl rfl rfl (op_move q0)) <| oe [503, 501, 500] [] (GOk.on_eq hb8 rfl rfl rfl (op_bin bin_eql q0 q1)) <| ov [504, 500] (op_pick_t hb8 q0 q1) .nil) fun _ a w h => ?_
        exact ⟨decide (r2.1.f_Home = a_2), hF, h.sub [0, 1, 2, 3, 4, 5, 6] (by rfl)⟩
      · replace hF := ff_of hb8 hF
        refine reg mixed hn hG h [0, 1, 2, 3, 500, 5, 6] (ov [4] (op_move q0) <| ov [500] (op_move q0) <| oe [500, 3] [] (GOk.on_eq hb7 rfl rfl rfl (op_fieldAddr_lbm (p := (b3 5)) (n := 1) 0 0 Tryd.underlying142 rfl Tryd.sizeOf5 (by decide) q0 rfl)) <| oe [501, 500, 6] [] (GOk.on_eq hb7 rfl rfl rfl (op_load_lb1 [] [one (intVP .u32 r2.1.f_Home), one (intVP .u64 r2.1.f_Next), bytesCk 32 r2.1.f_Old, bytesCk 32 r2.1.f_New, one (intVP .u64 r2.1.f_Sent)] 1 Tryd.isAgg5 q0 rfl rfl)) <| oe [502, 0] [] (GOk.on_eq hb7 rfl rfl rfl (op_move q0)) <| oe [503, 501, 500] [] (GOk.on_eq hb7 rfl rfl rfl (op_bin bin_eql q0 q1)) <| ov [504, 500] (op_pick_t hb7 q0 q1) <| ov [500] (op_move q0) <| oe [500] [] (GOk.off_v (want := true) hb8 rfl rfl rfl rfl) <| oe [501] [] (GOk.off_v (want := true) hb8 rfl rfl rfl rfl) <| oe [502] [] (GOk.off_v (want := true) hb8 rfl rfl rfl rfl) <| oe [503] [] (GOk.off_v (want := true) hb8 rfl rfl rfl rfl) <| ov [504] (op_pick_f hb8 q0 qb) .nil) fun _ a w h => ?_
        exact ⟨false, hF, h.sub [0, 1, 2, 3, 4, 5, 6] (by rfl)⟩
    · replace hF := ff_of hb7 hF
      refine reg mixed hn hG h [0, 1, 2, 3, 500, 5, 6] (ov [4] (op_move q0) <| ov [500] (op_move q0) <| oe [500] [] (GOk.off_v (want := true) hb7 rfl rfl rfl rfl) <| oe [501] [] (GOk.off_v (want := true) hb7 rfl rfl rfl rfl) <| oe [502] [] (GOk.off_v (want := true) hb7 rfl rfl rfl rfl) <| oe [503] [] (GOk.off_v (want := true) hb7 rfl rfl rfl rfl) <| ov [504] (op_pick_f hb7 q0 qb) <| ov [500] (op_move q0) <| oe [500] [] (GOk.off_v (want := true) rfl rfl rfl rfl rfl) <| oe [501] [] (GOk.off_v (want := true) rfl rfl rfl rfl rfl) <| oe [502] [] (GOk.off_v (want := true) rfl rfl rfl rfl rfl) <| oe [503] [] (GOk.off_v (want := true) rfl rfl rfl rfl rfl) <| ov [504] (op_pick_f rfl q0 qb) .nil) fun _ a w h => ?_
      exact ⟨false, hF, h.sub [0, 1, 2, 3, 4, 5, 6] (by rfl)⟩
  · clear h hF
    rintro a w ⟨x4, hF, h⟩
    unfold ref21_Read.j1 at hF
    show Code.wp Tryd.prog _ _ a w
    refine cnd h hF 4 [2, 3, 5, 6] [0, 1, 2, 5] (fun hb5 hF h => ?_) (fun hb5 hF h => ?_)
    · refine regS mixed hn hG h [0, 500] (ov [1, 3] (op_load_w 1 Tryd.isAgg142 Tryd.sizeOf142 q0) <| ou [0, 500] 2 (op_store_w Tryd.sizeOf142 q0 q1 (cells_agg _)) .nil) fun _ a w h => ?_
      refine wp_ret ?_
      obtain rfl := Option.some.inj hF
      exact ⟨.inl rfl, ret1 h Tryd.results72 (r_cell 0 1 rfl rfl Tryd.isAgg142 Tryd.sizeOf142 rfl) [] [] rfl rfl rfl⟩
    · refine wp_skip ?_
      show Code.wp Tryd.prog _ _ a w
      refine regS mixed hn hG h [0, 1, 2, 501, 3, 500] (ob [] (op_alloc Tryd.zeroValue142 z142) .nil) fun b6 a w h => ?_
      refine regS mixed hn hG h [1, 2, 3, 4, 500] (ov [0] (op_move q0) <| ov [3] (op_fieldAddr_lbm (p := (b6 0)) (n := 1) 0 0 Tryd.underlying142 rfl Tryd.sizeOf5 (by decide) q0 rfl) <| ou [500, 501] 5 (op_store_lb [] [one (intVP .u8 ((S_ref21_Note.mk (0 : Int) (0 : Int) (0 : Int) (List.replicate 32 0) (List.replicate 32 0) (0 : Int)).f_Kind))] [one (intVP .u32 ((S_ref21_Note.mk (0 : Int) (0 : Int) (0 : Int) (List.replicate 32 0) (List.replicate 32 0) (0 : Int)).f_Home)), one (intVP .u64 ((S_ref21_Note.mk (0 : Int) (0 : Int) (0 : Int) (List.replicate 32 0) (List.replicate 32 0) (0 : Int)).f_Next)), bytesCk 32 ((S_ref21_Note.mk (0 : Int) (0 : Int) (0 : Int) (List.replicate 32 0) (List.replicate 32 0) (0 : Int)).f_Old), bytesCk 32 ((S_ref21_Note.mk (0 : Int) (0 : Int) (0 : Int) (List.replicate 32 0) (List.replicate 32 0) (0 : Int)).f_New), one (intVP .u64 ((S_ref21_Note.mk (0 : Int) (0 : Int) (0 : Int) (List.replicate 32 0) (List.replicate 32 0) (0 : Int)).f_Sent))] [one (intVP .u8 a_1)] Tryd.sizeOf5 q0 q1 (cells_one (one_int _ _)) rfl rfl rfl) .nil) fun _ a w h => ?_
      refine regS mixed hn hG h [1, 2, 3, 500] (ov [0] (op_move q0) <| ov [2] (op_fieldAddr_lbm (p := (b6 0)) (n := 1) 0 1 Tryd.underlying142 rfl Tryd.sizeOf22 (by decide) q0 rfl) <| ou [500, 501] 4 (op_store_lb [one (intVP .u8 a_1)] [one (intVP .u32 ((S_ref21_Note.mk (0 : Int) (0 : Int) (0 : Int) (List.replicate 32 0) (List.replicate 32 0) (0 : Int)).f_Home))] [one (intVP .u64 ((S_ref21_Note.mk (0 : Int) (0 : Int) (0 : Int) (List.replicate 32 0) (List.replicate 32 0) (0 : Int)).f_Next)), bytesCk 32 ((S_ref21_Note.mk (0 : Int) (0 : Int) (0 : Int) (List.replicate 32 0) (List.replicate 32 0) (0 : Int)).f_Old), bytesCk 32 ((S_ref21_Note.mk (0 : Int) (0 : Int) (0 : Int) (List.replicate 32 0) (List.replicate 32 0) (0 : Int)).f_New), one (intVP .u64 ((S_ref21_Note.mk (0 : Int) (0 : Int) (0 : Int) (List.replicate 32 0) (List.replicate 32 0) (0 : Int)).f_Sent))] [one (intVP .u32 a_2)] Tryd.sizeOf22 q0 q1 (cells_one (one_int _ _)) rfl rfl rfl) .nil) fun _ a w h => ?_
      refine regS mixed hn hG h [0, 500] (ov [1, 3] (op_load_w 1 Tryd.isAgg142 Tryd.sizeOf142 q0) <| ou [0, 500] 2 (op_store_w Tryd.sizeOf142 q0 q1 (cells_agg _)) .nil) fun _ a w h => ?_
      refine wp_ret ?_
      obtain rfl := Option.some.inj hF
      exact ⟨.inl rfl, ret1 h Tryd.results72 (r_cell 0 1 rfl rfl Tryd.isAgg142 Tryd.sizeOf142 rfl) [] [] rfl rfl rfl⟩

def ref23_Fits.j4 (x14 : Int) (x31 : Int) (x33 : Int) : Option (Flow Int (Int × Int × Int)) := some (.cont (x31, x33, IntKind.wrap .i64 (x14 + 1)))
def ref23_Fits.j3 (x13 : Int) (x14 : Int) (x31 : Int) (x32 : Bool) : Option (Flow Int (Int × Int × Int)) := (if x32 = true then ref23_Fits.j4 x14 x31 x14 else ref23_Fits.j4 x14 x31 x13)
def ref23_Fits.j2 (r2 : S_ref21_Note) (x13 : Int) (x14 : Int) (x31 : Int) : Option (Flow Int (Int × Int × Int)) := (if (decide (x13 < (0 : Int))) = true then ref23_Fits.j3 x13 x14 x31 (decide (r2.f_Next ≤ (IntKind.wrap .u64 x14))) else ref23_Fits.j3 x13 x14 x31 false)
def ref23_Fits.j1 (r2 : S_ref21_Note) (x12 : Int) (x13 : Int) (x14 : Int) (x29 : Bool) : Option (Flow Int (Int × Int × Int)) := (if x29 = true then some (.cont (x12, x13, IntKind.wrap .i64 (x14 + 1))) else (if (decide (x12 < (0 : Int))) = true then ref23_Fits.j2 r2 x13 x14 x14 else ref23_Fits.j2 r2 x13 x14 x12))
def ref23_Fits.b1 (a_2 : List (S_api_Update)) (a_3 : S_api_Replica) (r2 : S_ref21_Note) (x12 : Int) (x13 : Int) (x14 : Int) : Option (Flow Int (Int × Int × Int)) := (if (decide (x14 < (a_2.length : Int))) = true then (if (0 : Int) ≤ x14 ∧ x14 < a_2.length then (if (!decide (((a_2.getD x14.toNat default).f_Old) = a_3.f_Committed)) = true then ref23_Fits.j1 r2 x12 x13 x14 true else ref23_Fits.j1 r2 x12 x13 x14 (decide (((a_2.getD x14.toNat default).f_New) = a_3.f_Committed))) else none) else some (.brk (x12, x13, x14)))
def ref23_Fits (a_0 : List UInt8) (a_1 : Int) (a_2 : List (S_api_Update)) (a_3 : S_api_Replica) : Option Int := ((ref21_Read a_0 2 a_1).bind fun r2 => ((loopN (fun s : Int × Int × Int => ref23_Fits.b1 a_2 a_3 r2 s.1 s.2.1 s.2.2) (((a_2.length : Int) - 0 : Int).toNat + 2) ((-1 : Int), (-1 : Int), 0)).bind fun cr => match cr with | .ret r => some r | .next (y42, y43, y44) => (if (decide ((0 : Int) ≤ y43)) = true then some y43 else some y42)))
theorem ref23_Fits_ok {a_0 : List UInt8} {a_1 : Int} {a_2 : List (S_api_Update)} {a_3 : S_api_Replica} {r : Int} (hF : ref23_Fits a_0 a_1 a_2 a_3 = some r) : CallOk Tryd.prog KG 17 [(strVP a_0), (intVP .u32 a_1), (slVP S_api_Update.ck a_2), (aggVP [one (intVP .u32 a_3.f_Chain), one (intVP .u32 a_3.f_Here), bytesCk 32 a_3.f_Updater, one (slVP (dC 32) a_3.f_Watchers), one (intVP .u64 a_3.f_Window), bytesCk 32 a_3.f_Committed, one (slVP S_api_Timed.ck a_3.f_Roots), one (slVP S_api_State.ck a_3.f_States), one (boolVP a_3.f_Failed), one (boolVP a_3.f_Cut)])] [] (fun _ => []) (intVP .i64 r) := by
  refine CallOk.intro 54 Tryd.func17 rfl Tryd.ntmps17 (Nat.le_of_ble_eq_true rfl) ?_
  intro c a w hG hn h
  unfold ref23_Fits at hF
  change SatL c [.slot 0 (strVP a_0), .slot 1 (intVP .u32 a_1), .slot 2 (slVP S_api_Update.ck a_2), .slot 3 (aggVP [one (intVP .u32 a_3.f_Chain), one (intVP .u32 a_3.f_Here), bytesCk 32 a_3.f_Updater, one (slVP (dC 32) a_3.f_Watchers), one (intVP .u64 a_3.f_Window), bytesCk 32 a_3.f_Committed, one (slVP S_api_Timed.ck a_3.f_Roots), one (slVP S_api_State.ck a_3.f_States), one (boolVP a_3.f_Failed), one (boolVP a_3.f_Cut)])] a w at h
  refine regS mixed hn hG h [0, 1, 2, 502, 501] (ob [3] (op_box q0 (cells_agg _)) <| ov [] (op_assign qi) .nil) fun b1 a w h => ?_
  obtain ⟨r2, hr2, hF⟩ := bind_some hF
  refine regS mixed hn hG h [2, 3, 502, 4, 500] (ov [0] (op_move q0) <| ov [1] (op_move q0) <| oc [501, 500] [] Tryd.call72 (ref21_Read_ok hr2) ⟨q0, qi, q1, trivial⟩ <| ob [] (op_alloc Tryd.zeroValue142 z142) <| og [501, 502] [500] [.res 3 100000 (fun v1_ _ => (lb (v1_) 142 [one (intVP .u8 r2.f_Kind), one (intVP .u32 r2.f_Home), one (intVP .u64 r2.f_Next), bytesCk 32 r2.f_Old, bytesCk 32 r2.f_New, one (intVP .u64 r2.f_Sent)]))] (GOk.plain (op_store_w Tryd.sizeOf142 q0 q1 (cells_agg _)) rfl) .nil) fun b3 a w h => ?_
  refine regS mixed hn hG h [0, 1, 2, 501, 500, 3, 4] (ov [] (op_assign qi) <| ov [] (op_assign qi) .nil) fun _ a w h => ?_
  refine wp_seq ?_
  refine regS mixed hn hG h [1, 2, 3, 4, 502, 501, 500, 5, 6] (ov [0] (op_move q0) <| ov [500] (op_len_sl Tryd.underlying23 q0) <| ov [] (op_move qi) .nil) fun _ a w h => ?_
  refine wp_block ?_
  obtain ⟨cr38, hl39, hF⟩ := bind_some hF
  refine wp_mono (wp_loopN (R := Int) (S := Int × Int × Int) (fun s a w => SatL c [.slot 7 (lpVP (b1 0) 0), .slot 9 (lpVP (b3 3) 0), .slot 10 (intVP .i64 s.1), .slot 11 (intVP .i64 s.2.1), .slot 17 (slVP S_api_Update.ck a_2), .slot 18 (intVP .i64 (a_2.length : Int)), .slot 19 (intVP .i64 s.2.2), .res (lb (b1 0) 31 [one (intVP .u32 a_3.f_Chain), one (intVP .u32 a_3.f_Here), bytesCk 32 a_3.f_Updater, one (slVP (dC 32) a_3.f_Watchers), one (intVP .u64 a_3.f_Window), bytesCk 32 a_3.f_Committed, one (slVP S_api_Timed.ck a_3.f_Roots), one (slVP S_api_State.ck a_3.f_States), one (boolVP a_3.f_Failed), one (boolVP a_3.f_Cut)]), .res (lb (b3 3) 142 [one (intVP .u8 r2.f_Kind), one (intVP .u32 r2.f_Home), one (intVP .u64 r2.f_Next), bytesCk 32 r2.f_Old, bytesCk 32 r2.f_New, one (intVP .u64 r2.f_Sent)])] a w) (fun res e a w => match res with | .next s => e = .exit 0 ∧ SatL c [.slot 10 (intVP .i64 s.1), .slot 11 (intVP .i64 s.2.1)] a w | .ret r => e = .ret ∧ RetOk Tryd.prog Tryd.f17 c (intVP .i64 r) (fun _ => []) a w) ?_ _ ((-1 : Int), (-1 : Int), 0) _ _ _ (h.sub [0, 1, 2, 3, 4, 5, 6, 7, 8] (by rfl)) hl39) ?_
  · clear hl39 hF h
    intro s a w o h hF
    obtain ⟨x12, x13, x14⟩ := s
    change ref23_Fits.b1 a_2 a_3 r2 x12 x13 x14 = some o at hF
    unfold ref23_Fits.b1 at hF
    change SatL c [.slot 7 (lpVP (b1 0) 0), .slot 9 (lpVP (b3 3) 0), .slot 10 (intVP .i64 x12), .slot 11 (intVP .i64 x13), .slot 17 (slVP S_api_Update.ck a_2), .slot 18 (intVP .i64 (a_2.length : Int)), .slot 19 (intVP .i64 x14), .res (lb (b1 0) 31 [one (intVP .u32 a_3.f_Chain), one (intVP .u32 a_3.f_Here), bytesCk 32 a_3.f_Updater, one (slVP (dC 32) a_3.f_Watchers), one (intVP .u64 a_3.f_Window), bytesCk 32 a_3.f_Committed, one (slVP S_api_Timed.ck a_3.f_Roots), one (slVP S_api_State.ck a_3.f_States), one (boolVP a_3.f_Failed), one (boolVP a_3.f_Cut)]), .res (lb (b3 3) 142 [one (intVP .u8 r2.f_Kind), one (intVP .u32 r2.f_Home), one (intVP .u64 r2.f_Next), bytesCk 32 r2.f_Old, bytesCk 32 r2.f_New, one (intVP .u64 r2.f_Sent)])] a w at h
    refine regS mixed hn hG h [0, 1, 2, 3, 4, 5, 6, 500, 7, 8] (ov [6, 5] (op_bin bin_lss q0 q1) .nil) fun _ a w h => ?_
    refine wp_seq ?_
    refine cnd h hF 7 [0, 1, 2, 3, 4, 5, 6, 8, 9] [0, 1, 2, 3, 4, 5, 6, 8, 9] (fun hb26 hF h => ?_) (fun hb26 hF h => ?_)
    · refine wp_skip ?_
      show Code.wp Tryd.prog _ _ a w
      refine wp_seq ?_
      refine wp_block ?_
      obtain ⟨hv27, hF⟩ := ite_some hF
      refine regS mixed hn hG h [0, 1, 2, 3, 501, 503, 4, 5, 6, 7, 8, 500] (ov [6] (op_move q0) <| ov [4, 6] (op_indexAddr_sl Tryd.underlying23 Tryd.sizeOf37 S_api_Update.lens q0 q1 hv27) <| ov [500] (op_load_pp [one (intVP .u32 ((a_2.getD x14.toNat default).f_Home)), bytesCk 32 ((a_2.getD x14.toNat default).f_Old), bytesCk 32 ((a_2.getD x14.toNat default).f_New), one (intVP .i64 (((a_2.getD x14.toNat default).f_Sig).f_Index)), one (slVP (dC 32) (((a_2.getD x14.toNat default).f_Sig).f_Parts)), one (slVP (dC 32) (((a_2.getD x14.toNat default).f_Sig).f_Others)), one (slVP (dC 32) (((a_2.getD x14.toNat default).f_Sig).f_Path))] [] Tryd.isAgg37 Tryd.sizeOf37 q0 rfl) <| ob [] (op_alloc Tryd.zeroValue37 z37) <| ov [504] (op_assign q0) <| og [502, 503] [501] [.res 3 100000 (fun v1_ _ => (lb (v1_) 37 [one (intVP .u32 ((a_2.getD x14.toNat default).f_Home)), bytesCk 32 ((a_2.getD x14.toNat default).f_Old), bytesCk 32 ((a_2.getD x14.toNat default).f_New), one (intVP .i64 (((a_2.getD x14.toNat default).f_Sig).f_Index)), one (slVP (dC 32) (((a_2.getD x14.toNat default).f_Sig).f_Parts)), one (slVP (dC 32) (((a_2.getD x14.toNat default).f_Sig).f_Others)), one (slVP (dC 32) (((a_2.getD x14.toNat default).f_Sig).f_Path))]))] (GOk.plain (op_store_w Tryd.sizeOf37 q0 q1 (cells_agg _)) rfl) .nil) fun b28 a w h => ?_
      refine wp_seq ?_
      refine wp_seq ?_
      refine wp_cut (fun a w => ∃ (x29 : Bool), ref23_Fits.j1 r2 x12 x13 x14 x29 = some o ∧ SatL c [.slot 7 (lpVP (b1 0) 0), .slot 9 (lpVP (b3 3) 0), .slot 10 (intVP .i64 x12), .slot 11 (intVP .i64 x13), .slot 12 (intVP .i64 x14), .slot 17 (slVP S_api_Update.ck a_2), .slot 18 (intVP .i64 (a_2.length : Int)), .slot 19 (intVP .i64 x14), .slot 35 (boolVP x29), .res (lb (b1 0) 31 [one (intVP .u32 a_3.f_Chain), one (intVP .u32 a_3.f_Here), bytesCk 32 a_3.f_Updater, one (slVP (dC 32) a_3.f_Watchers), one (intVP .u64 a_3.f_Window), bytesCk 32 a_3.f_Committed, one (slVP S_api_Timed.ck a_3.f_Roots), one (slVP S_api_State.ck a_3.f_States), one (boolVP a_3.f_Failed), one (boolVP a_3.f_Cut)]), .res (lb (b3 3) 142 [one (intVP .u8 r2.f_Kind), one (intVP .u32 r2.f_Home), one (intVP .u64 r2.f_Next), bytesCk 32 r2.f_Old, bytesCk 32 r2.f_New, one (intVP .u64 r2.f_Sent)])] a w) ?_ ?_
      · rcases Bool.eq_false_or_eq_true (!decide (((a_2.getD x14.toNat default).f_Old) = a_3.f_Committed)) with hb37 | hb37
        · replace hF := tt_of hb37 hF
          refine reg mixed hn hG h [0, 1, 2, 3, 4, 6, 7, 8, 500, 9, 10] (ov [5] (op_fieldAddr_lbm (p := (b28 3)) (n := 32) 0 1 Tryd.underlying37 rfl Tryd.sizeOf25 (by decide) q0 rfl) <| ov [500, 11] (op_load_lb [one (intVP .u32 ((a_2.getD x14.toNat default).f_Home))] [bytesCk 32 ((a_2.getD x14.toNat default).f_Old)] [bytesCk 32 ((a_2.getD x14.toNat default).f_New), one (intVP .i64 (((a_2.getD x14.toNat default).f_Sig).f_Index)), one (slVP (dC 32) (((a_2.getD x14.toNat default).f_Sig).f_Parts)), one (slVP (dC 32) (((a_2.getD x14.toNat default).f_Sig).f_Others)), one (slVP (dC 32) (((a_2.getD x14.toNat default).f_Sig).f_Path))] 1 Tryd.isAgg25 Tryd.sizeOf25 q0 rfl rfl rfl) <| ov [0] (op_fieldAddr_lbm (p := (b1 0)) (n := 32) 0 36 Tryd.underlying31 rfl Tryd.sizeOf25 (by decide) q0 rfl) <| ov [500, 9] (op_load_lb [one (intVP .u32 a_3.f_Chain), one (intVP .u32 a_3.f_Here), bytesCk 32 a_3.f_Updater, one (slVP (dC 32) a_3.f_Watchers), one (intVP .u64 a_3.f_Window)] [bytesCk 32 a_3.f_Committed] [one (slVP S_api_Timed.ck a_3.f_Roots), one (slVP S_api_State.ck a_3.f_States), one (boolVP a_3.f_Failed), one (boolVP a_3.f_Cut)] 1 Tryd.isAgg25 Tryd.sizeOf25 q0 rfl rfl rfl) <| ov [502, 500] (op_bin (bin_aneq Tryd.underlying25 Tryd.underlying5 Tryd.type5 Tryd.sizeOf5 Tryd.isAgg5 Tryd.eqGuardType25) q0 q1) <| ov [500] (op_move q0) <| oe [500] [] (GOk.off_v (want := false) hb37 rfl rfl rfl rfl) <| oe [501] [] (GOk.off_v (want := false) hb37 rfl rfl rfl rfl) <| oe [502] [] (GOk.off_v (want := false) hb37 rfl rfl rfl rfl) <| oe [503] [] (GOk.off_v (want := false) hb37 rfl rfl rfl rfl) <| oe [504] [] (GOk.off_v (want := false) hb37 rfl rfl rfl rfl) <| ov [505] (op_pick_t hb37 q0 qb) .nil) fun _ a w h => ?_
          exact ⟨true, hF, h.sub [0, 1, 2, 3, 4, 5, 6, 7, 8, 9, 10] (by rfl)⟩
        · replace hF := ff_of hb37 hF
          refine reg mixed hn hG h [0, 1, 2, 3, 4, 6, 7, 8, 500, 9, 10] (ov [5] (op_fieldAddr_lbm (p := (b28 3)) (n := 32) 0 1 Tryd.underlying37 rfl Tryd.sizeOf25 (by decide) q0 rfl) <| ov [500, 11] (op_load_lb [one (intVP .u32 ((a_2.getD x14.toNat default).f_Home))] [bytesCk 32 ((a_2.getD x14.toNat default).f_Old)] [bytesCk 32 ((a_2.getD x14.toNat default).f_New), one (intVP .i64 (((a_2.getD x14.toNat default).f_Sig).f_Index)), one (slVP (dC 32) (((a_2.getD x14.toNat default).f_Sig).f_Parts)), one (slVP (dC 32) (((a_2.getD x14.toNat default).f_Sig).f_Others)), one (slVP (dC 32) (((a_2.getD x14.toNat default).f_Sig).f_Path))] 1 Tryd.isAgg25 Tryd.sizeOf25 q0 rfl rfl rfl) <| ov [0] (op_fieldAddr_lbm (p := (b1 0)) (n := 32) 0 36 Tryd.underlying31 rfl Tryd.sizeOf25 (by decide) q0 rfl) <| ov [500, 9] (op_load_lb [one (intVP .u32 a_3.f_Chain), one (intVP .u32 a_3.f_Here), bytesCk 32 a_3.f_Updater, one (slVP (dC 32) a_3.f_Watchers), one (intVP .u64 a_3.f_Window)] [bytesCk 32 a_3.f_Committed] [one (slVP S_api_Timed.ck a_3.f_Roots), one (slVP S_api_State.ck a_3.f_States), one (boolVP a_3.f_Failed), one (boolVP a_3.f_Cut)] 1 Tryd.isAgg25 Tryd.sizeOf25 q0 rfl rfl rfl) <| ov [502, 500] (op_bin (bin_aneq Tryd.underlying25 Tryd.underlying5 Tryd.type5 Tryd.sizeOf5 Tryd.isAgg5 Tryd.eqGuardType25) q0 q1) <| ov [500] (op_move q0) <| oe [500, 5] [] (GOk.on_eq hb37 rfl rfl rfl (op_fieldAddr_lbm (p := (b28 3)) (n := 32) 0 33 Tryd.underlying37 rfl Tryd.sizeOf25 (by decide) q0 rfl)) <| oe [501, 500, 11] [] (GOk.on_eq hb37 rfl rfl rfl (op_load_lb [one (intVP .u32 ((a_2.getD x14.toNat default).f_Home)), bytesCk 32 ((a_2.getD x14.toNat default).f_Old)] [bytesCk 32 ((a_2.getD x14.toNat default).f_New)] [one (intVP .i64 (((a_2.getD x14.toNat default).f_Sig).f_Index)), one (slVP (dC 32) (((a_2.getD x14.toNat default).f_Sig).f_Parts)), one (slVP (dC 32) (((a_2.getD x14.toNat default).f_Sig).f_Others)), one (slVP (dC 32) (((a_2.getD x14.toNat default).f_Sig).f_Path))] 1 Tryd.isAgg25 Tryd.sizeOf25 q0 rfl rfl rfl)) <| oe [502, 0] [] (GOk.on_eq hb37 rfl rfl rfl (op_fieldAddr_lbm (p := (b1 0)) (n := 32) 0 36 Tryd.underlying31 rfl Tryd.sizeOf25 (by decide) q0 rfl)) <| oe [503, 500, 9] [] (GOk.on_eq hb37 rfl rfl rfl (op_load_lb [one (intVP .u32 a_3.f_Chain), one (intVP .u32 a_3.f_Here), bytesCk 32 a_3.f_Updater, one (slVP (dC 32) a_3.f_Watchers), one (intVP .u64 a_3.f_Window)] [bytesCk 32 a_3.f_Committed] [one (slVP S_api_Timed.ck a_3.f_Roots), one (slVP S_api_State.ck a_3.f_States), one (boolVP a_3.f_Failed), one (boolVP a_3.f_Cut)] 1 Tryd.isAgg25 Tryd.sizeOf25 q0 rfl rfl rfl)) <| oe [504, 502, 500] [] (GOk.on_eq hb37 rfl rfl rfl (op_bin (bin_aeql Tryd.underlying25 Tryd.underlying5 Tryd.type5 Tryd.sizeOf5 Tryd.isAgg5 Tryd.eqGuardType25) q0 q1)) <| ov [505, 500] (op_pick_f hb37 q0 q1) .nil) fun _ a w h => ?_
          exact ⟨decide (((a_2.getD x14.toNat default).f_New) = a_3.f_Committed), hF, h.sub [0, 1, 2, 3, 4, 5, 6, 7, 8, 9, 10] (by rfl)⟩
      · clear h hF
        rintro a w ⟨x29, hF, h⟩
        unfold ref23_Fits.j1 at hF
        show Code.wp Tryd.prog _ _ a w
        refine cnd h hF 8 [0, 1, 2, 3, 5, 6, 7, 9, 10] [0, 1, 2, 3, 4, 5, 6, 7, 9, 10] (fun hb30 hF h => ?_) (fun hb30 hF h => ?_)
        · refine wp_exit ?_
          show Code.wp Tryd.prog _ _ a w
          refine reg mixed hn hG h [0, 1, 2, 3, 4, 5, 500, 7, 8] (ov [6] (op_bin bin_add q0 qi) <| od [500] 6 (op_move q0) .nil) fun _ a w h => ?_
          obtain rfl := Option.some.inj hF
          exact ⟨rfl, h.sub [0, 1, 2, 3, 4, 5, 6, 7, 8] (by rfl)⟩
        · refine wp_skip ?_
          show Code.wp Tryd.prog _ _ a w
          refine wp_seq ?_
          refine regS mixed hn hG h [0, 1, 2, 3, 4, 5, 6, 7, 500, 8, 9] (ov [2] (op_move q0) <| ov [500] (op_bin bin_lss q0 qi) .nil) fun _ a w h => ?_
          refine wp_cut (fun a w => ∃ (x31 : Int), ref23_Fits.j2 r2 x13 x14 x31 = some o ∧ SatL c [.slot 7 (lpVP (b1 0) 0), .slot 9 (lpVP (b3 3) 0), .slot 10 (intVP .i64 x31), .slot 11 (intVP .i64 x13), .slot 12 (intVP .i64 x14), .slot 17 (slVP S_api_Update.ck a_2), .slot 18 (intVP .i64 (a_2.length : Int)), .slot 19 (intVP .i64 x14), .res (lb (b1 0) 31 [one (intVP .u32 a_3.f_Chain), one (intVP .u32 a_3.f_Here), bytesCk 32 a_3.f_Updater, one (slVP (dC 32) a_3.f_Watchers), one (intVP .u64 a_3.f_Window), bytesCk 32 a_3.f_Committed, one (slVP S_api_Timed.ck a_3.f_Roots), one (slVP S_api_State.ck a_3.f_States), one (boolVP a_3.f_Failed), one (boolVP a_3.f_Cut)]), .res (lb (b3 3) 142 [one (intVP .u8 r2.f_Kind), one (intVP .u32 r2.f_Home), one (intVP .u64 r2.f_Next), bytesCk 32 r2.f_Old, bytesCk 32 r2.f_New, one (intVP .u64 r2.f_Sent)])] a w) ?_ ?_
          · refine cnd h hF 8 [0, 1, 3, 4, 5, 6, 7, 9, 10] [0, 1, 2, 3, 4, 5, 6, 7, 9, 10] (fun hb36 hF h => ?_) (fun hb36 hF h => ?_)
            · refine reg mixed hn hG h [0, 1, 500, 2, 3, 4, 5, 6, 7, 8] (ov [3] (op_move q0) <| ov [500] (op_assign q0) .nil) fun _ a w h => ?_
              exact ⟨x14, hF, h.sub [0, 1, 2, 3, 4, 5, 6, 7, 8, 9] (by rfl)⟩
            · refine wp_skip ?_
              exact ⟨x12, hF, h.sub [0, 1, 2, 3, 4, 5, 6, 7, 8, 9] (by rfl)⟩
          · clear h hF
            rintro a w ⟨x31, hF, h⟩
            unfold ref23_Fits.j2 at hF
            show Code.wp Tryd.prog _ _ a w
            refine wp_seq ?_
            refine wp_cut (fun a w => ∃ (x32 : Bool), ref23_Fits.j3 x13 x14 x31 x32 = some o ∧ SatL c [.slot 7 (lpVP (b1 0) 0), .slot 9 (lpVP (b3 3) 0), .slot 10 (intVP .i64 x31), .slot 11 (intVP .i64 x13), .slot 12 (intVP .i64 x14), .slot 17 (slVP S_api_Update.ck a_2), .slot 18 (intVP .i64 (a_2.length : Int)), .slot 19 (intVP .i64 x14), .slot 47 (boolVP x32), .res (lb (b1 0) 31 [one (intVP .u32 a_3.f_Chain), one (intVP .u32 a_3.f_Here), bytesCk 32 a_3.f_Updater, one (slVP (dC 32) a_3.f_Watchers), one (intVP .u64 a_3.f_Window), bytesCk 32 a_3.f_Committed, one (slVP S_api_Timed.ck a_3.f_Roots), one (slVP S_api_State.ck a_3.f_States), one (boolVP a_3.f_Failed), one (boolVP a_3.f_Cut)]), .res (lb (b3 3) 142 [one (intVP .u8 r2.f_Kind), one (intVP .u32 r2.f_Home), one (intVP .u64 r2.f_Next), bytesCk 32 r2.f_Old, bytesCk 32 r2.f_New, one (intVP .u64 r2.f_Sent)])] a w) ?_ ?_
            · rcases Bool.eq_false_or_eq_true (decide (x13 < (0 : Int))) with hb35 | hb35
              · replace hF := tt_of hb35 hF
                refine reg mixed hn hG h [0, 1, 2, 3, 4, 5, 6, 7, 500, 8, 9] (ov [3] (op_move q0) <| ov [500] (op_bin bin_lss q0 qi) <| ov [500] (op_move q0) <| oe [500, 4] [] (GOk.on_eq hb35 rfl rfl rfl (op_move q0)) <| oe [501, 500] [] (GOk.on_eq hb35 rfl rfl rfl (op_convert_int Tryd.underlying3 Tryd.underlying27 q0)) <| oe [502, 1] [] (GOk.on_eq hb35 rfl rfl rfl (op_fieldAddr_lbm (p := (b3 3)) (n := 1) 0 2 Tryd.underlying142 rfl Tryd.sizeOf27 (by decide) q0 rfl)) <| oe [503, 500, 9] [] (GOk.on_eq hb35 rfl rfl rfl (op_load_lb1 [one (intVP .u8 r2.f_Kind), one (intVP .u32 r2.f_Home)] [bytesCk 32 r2.f_Old, bytesCk 32 r2.f_New, one (intVP .u64 r2.f_Sent)] 1 Tryd.isAgg27 q0 rfl rfl)) <| oe [504, 502, 500] [] (GOk.on_eq hb35 rfl rfl rfl (op_bin bin_geq q0 q1)) <| ov [505, 500] (op_pick_t hb35 q0 q1) .nil) fun _ a w h => ?_
                exact ⟨decide (r2.f_Next ≤ (IntKind.wrap .u64 x14)), hF, h.sub [0, 1, 2, 3, 4, 5, 6, 7, 8, 9, 10] (by rfl)⟩
              · replace hF := ff_of hb35 hF
                refine reg mixed hn hG h [0, 1, 2, 3, 4, 5, 6, 7, 500, 8, 9] (ov [3] (op_move q0) <| ov [500] (op_bin bin_lss q0 qi) <| ov [500] (op_move q0) <| oe [500] [] (GOk.off_v (want := true) hb35 rfl rfl rfl rfl) <| oe [501] [] (GOk.off_v (want := true) hb35 rfl rfl rfl rfl) <| oe [502] [] (GOk.off_v (want := true) hb35 rfl rfl rfl rfl) <| oe [503] [] (GOk.off_v (want := true) hb35 rfl rfl rfl rfl) <| oe [504] [] (GOk.off_v (want := true) hb35 rfl rfl rfl rfl) <| ov [505] (op_pick_f hb35 q0 qb) .nil) fun _ a w h => ?_
                exact ⟨false, hF, h.sub [0, 1, 2, 3, 4, 5, 6, 7, 8, 9, 10] (by rfl)⟩
            · clear h hF
              rintro a w ⟨x32, hF, h⟩
              unfold ref23_Fits.j3 at hF
              show Code.wp Tryd.prog _ _ a w
              refine wp_cut (fun a w => ∃ (x33 : Int), ref23_Fits.j4 x14 x31 x33 = some o ∧ SatL c [.slot 7 (lpVP (b1 0) 0), .slot 9 (lpVP (b3 3) 0), .slot 10 (intVP .i64 x31), .slot 11 (intVP .i64 x33), .slot 17 (slVP S_api_Update.ck a_2), .slot 18 (intVP .i64 (a_2.length : Int)), .slot 19 (intVP .i64 x14), .res (lb (b1 0) 31 [one (intVP .u32 a_3.f_Chain), one (intVP .u32 a_3.f_Here), bytesCk 32 a_3.f_Updater, one (slVP (dC 32) a_3.f_Watchers), one (intVP .u64 a_3.f_Window), bytesCk 32 a_3.f_Committed, one (slVP S_api_Timed.ck a_3.f_Roots), one (slVP S_api_State.ck a_3.f_States), one (boolVP a_3.f_Failed), one (boolVP a_3.f_Cut)]), .res (lb (b3 3) 142 [one (intVP .u8 r2.f_Kind), one (intVP .u32 r2.f_Home), one (intVP .u64 r2.f_Next), bytesCk 32 r2.f_Old, bytesCk 32 r2.f_New, one (intVP .u64 r2.f_Sent)])] a w) ?_ ?_
              · refine cnd h hF 8 [0, 1, 2, 4, 5, 6, 7, 9, 10] [0, 1, 2, 3, 5, 6, 7, 9, 10] (fun hb34 hF h => ?_) (fun hb34 hF h => ?_)
                · refine reg mixed hn hG h [0, 1, 2, 500, 4, 5, 6, 7, 8] (ov [3] (op_move q0) <| ov [500] (op_assign q0) .nil) fun _ a w h => ?_
                  exact ⟨x14, hF, h.sub [0, 1, 2, 3, 4, 5, 6, 7, 8] (by rfl)⟩
                · refine wp_skip ?_
                  exact ⟨x13, hF, h.sub [0, 1, 2, 3, 4, 5, 6, 7, 8] (by rfl)⟩
              · clear h hF
                rintro a w ⟨x33, hF, h⟩
                unfold ref23_Fits.j4 at hF
                show Code.wp Tryd.prog _ _ a w
                refine reg mixed hn hG h [0, 1, 2, 3, 4, 5, 500, 7, 8] (ov [6] (op_bin bin_add q0 qi) <| od [500] 6 (op_move q0) .nil) fun _ a w h => ?_
                obtain rfl := Option.some.inj hF
                exact ⟨rfl, h.sub [0, 1, 2, 3, 4, 5, 6, 7, 8] (by rfl)⟩
    · refine wp_exit ?_
      obtain rfl := Option.some.inj hF
      exact ⟨exit_ne _, rfl, h.sub [2, 3] (by rfl)⟩
  · clear hl39
    intro e a w hq
    cases cr38 with
    | ret r40 =>
      obtain ⟨rfl, hq⟩ := hq
      obtain rfl := Option.some.inj hF
      exact ⟨.inl rfl, hq⟩
    | next s41 =>
      obtain ⟨y42, y43, y44⟩ := s41
      obtain ⟨rfl, h⟩ := hq
      change SatL c [.slot 10 (intVP .i64 y42), .slot 11 (intVP .i64 y43)] a w at h
      refine inBlock_at ?_
      show Code.wp Tryd.prog _ _ a w
      refine wp_seq ?_
      refine regS mixed hn hG h [0, 1, 500] (ov [1] (op_move q0) <| ov [500] (op_bin bin_geq q0 qi) .nil) fun _ a w h => ?_
      refine cnd h hF 2 [1] [0] (fun hb45 hF h => ?_) (fun hb45 hF h => ?_)
      · refine regS mixed hn hG h [500] (ov [0] (op_move q0) <| ov [500] (op_assign q0) .nil) fun _ a w h => ?_
        refine wp_ret ?_
        obtain rfl := Option.some.inj hF
        exact ⟨.inl rfl, ret1 h Tryd.results17 (r_tmp 0 rfl) [] [] rfl rfl rfl⟩
      · refine wp_skip ?_
        show Code.wp Tryd.prog _ _ a w
        refine regS mixed hn hG h [500] (ov [0] (op_move q0) <| ov [500] (op_assign q0) .nil) fun _ a w h => ?_
        refine wp_ret ?_
        obtain rfl := Option.some.inj hF
        exact ⟨.inl rfl, ret1 h Tryd.results17 (r_tmp 0 rfl) [] [] rfl rfl rfl⟩

def ref23_Step.j3 (a_2 : List (S_api_Update)) (a_4 : Int) (r2 : Int) (r6 : S_ref21_Note) (x10 : Int) : Option ((List UInt8) × (List (S_api_Update))) := (if (0 : Int) ≤ r2 ∧ r2 < a_2.length then (if (0 : Int) ≤ r2 ∧ r2 < a_2.length then (if (decide (a_4 = (1 : Int))) = true then ((ref21_Bytes (S_ref21_Note.mk r6.f_Kind r6.f_Home (IntKind.wrap .u64 r2) ((a_2.getD r2.toNat default).f_Old) ((a_2.getD r2.toNat default).f_New) (IntKind.wrap .u64 (x10 + 1)))).bind fun r14 => some (r14, [])) else ((ref21_Bytes (S_ref21_Note.mk r6.f_Kind r6.f_Home (IntKind.wrap .u64 r2) ((a_2.getD r2.toNat default).f_Old) ((a_2.getD r2.toNat default).f_New) (IntKind.wrap .u64 (x10 + 1)))).bind fun r15 => (if (0 : Int) ≤ r2 ∧ r2 < a_2.length then some (r15, [a_2.getD r2.toNat default]) else none))) else none) else none)
def ref23_Step.j2 (a_2 : List (S_api_Update)) (a_4 : Int) (r2 : Int) (r6 : S_ref21_Note) (x9 : Int) : Option ((List UInt8) × (List (S_api_Update))) := (if (decide ((999999 : Int) < x9)) = true then ref23_Step.j3 a_2 a_4 r2 r6 999999 else ref23_Step.j3 a_2 a_4 r2 r6 x9)
def ref23_Step.j1 (a_0 : List UInt8) (a_1 : Int) (a_2 : List (S_api_Update)) (a_4 : Int) (r2 : Int) (x3 : Bool) : Option ((List UInt8) × (List (S_api_Update))) := (if x3 = true then some (a_0, []) else (if (decide (a_4 = (0 : Int))) = true then some (a_0, []) else ((ref21_Read a_0 2 a_1).bind fun r6 => (if (0 : Int) ≤ r2 ∧ r2 < a_2.length then (if (!decide (r6.f_New = ((a_2.getD r2.toNat default).f_New))) = true then ref23_Step.j2 a_2 a_4 r2 r6 0 else ref23_Step.j2 a_2 a_4 r2 r6 r6.f_Sent) else none))))
def ref23_Step (a_0 : List UInt8) (a_1 : Int) (a_2 : List (S_api_Update)) (a_3 : S_api_Replica) (a_4 : Int) : Option ((List UInt8) × (List (S_api_Update))) := ((ref23_Fits a_0 a_1 a_2 a_3).bind fun r2 => (if (decide (r2 < (0 : Int))) = true then ref23_Step.j1 a_0 a_1 a_2 a_4 r2 true else (if a_3.f_Failed = true then ref23_Step.j1 a_0 a_1 a_2 a_4 r2 true else ref23_Step.j1 a_0 a_1 a_2 a_4 r2 a_3.f_Cut)))
theorem ref23_Step_ok {a_0 : List UInt8} {a_1 : Int} {a_2 : List (S_api_Update)} {a_3 : S_api_Replica} {a_4 : Int} {r : (List UInt8) × (List (S_api_Update))} (hF : ref23_Step a_0 a_1 a_2 a_3 a_4 = some r) : CallOk Tryd.prog KG 15 [(strVP a_0), (intVP .u32 a_1), (slVP S_api_Update.ck a_2), (aggVP [one (intVP .u32 a_3.f_Chain), one (intVP .u32 a_3.f_Here), bytesCk 32 a_3.f_Updater, one (slVP (dC 32) a_3.f_Watchers), one (intVP .u64 a_3.f_Window), bytesCk 32 a_3.f_Committed, one (slVP S_api_Timed.ck a_3.f_Roots), one (slVP S_api_State.ck a_3.f_States), one (boolVP a_3.f_Failed), one (boolVP a_3.f_Cut)]), (intVP .i64 a_4)] [] (fun _ => []) (tupVP [(strVP r.1), (slVP S_api_Update.ck r.2)]) := by
  refine CallOk.intro 78 Tryd.func15 rfl Tryd.ntmps15 (Nat.le_of_ble_eq_true rfl) ?_
  intro c a w hG hn h
  unfold ref23_Step at hF
  change SatL c [.slot 0 (strVP a_0), .slot 1 (intVP .u32 a_1), .slot 2 (slVP S_api_Update.ck a_2), .slot 3 (aggVP [one (intVP .u32 a_3.f_Chain), one (intVP .u32 a_3.f_Here), bytesCk 32 a_3.f_Updater, one (slVP (dC 32) a_3.f_Watchers), one (intVP .u64 a_3.f_Window), bytesCk 32 a_3.f_Committed, one (slVP S_api_Timed.ck a_3.f_Roots), one (slVP S_api_State.ck a_3.f_States), one (boolVP a_3.f_Failed), one (boolVP a_3.f_Cut)]), .slot 4 (intVP .i64 a_4)] a w at h
  refine regS mixed hn hG h [0, 1, 2, 4, 503, 502] (ob [3] (op_box q0 (cells_agg _)) <| ov [] (op_assign (opc (sc _ (by decide)))) <| ov [] (op_assign (opc (ec _))) .nil) fun b1 a w h => ?_
  obtain ⟨r2, hr2, hF⟩ := bind_some hF
  refine regS mixed hn hG h [0, 1, 2, 3, 4, 500, 5] (ov [0] (op_move q0) <| ov [1] (op_move q0) <| ov [2] (op_move q0) <| ov [4, 5] (op_load_w 1 Tryd.isAgg31 Tryd.sizeOf31 q0) <| oc [503, 502, 501, 500] [] Tryd.call17 (ref23_Fits_ok hr2) ⟨q0, q1, q2, q3, trivial⟩ <| ov [500] (op_assign q0) .nil) fun _ a w h => ?_
  refine wp_seq ?_
  refine wp_seq ?_
  refine wp_cut (fun a w => ∃ (x3 : Bool), ref23_Step.j1 a_0 a_1 a_2 a_4 r2 x3 = some r ∧ SatL c [.slot 0 (strVP a_0), .slot 1 (intVP .u32 a_1), .slot 2 (slVP S_api_Update.ck a_2), .slot 4 (intVP .i64 a_4), .slot 12 (intVP .i64 r2), .slot 29 (boolVP x3)] a w) ?_ ?_
  · rcases Bool.eq_false_or_eq_true (decide (r2 < (0 : Int))) with hb19 | hb19
    · replace hF := tt_of hb19 hF
      refine reg mixed hn hG h [0, 1, 2, 3, 5, 500] (ov [5] (op_move q0) <| ov [500] (op_bin bin_lss q0 qi) <| ov [500] (op_move q0) <| oe [500] [] (GOk.off_v (want := false) hb19 rfl rfl rfl rfl) <| oe [501] [] (GOk.off_v (want := false) hb19 rfl rfl rfl rfl) <| ov [502] (op_pick_t hb19 q0 qb) <| ov [500] (op_move q0) <| oe [500] [] (GOk.off_v (want := false) rfl rfl rfl rfl rfl) <| oe [501] [] (GOk.off_v (want := false) rfl rfl rfl rfl rfl) <| ov [502] (op_pick_t rfl q0 qb) .nil) fun _ a w h => ?_
      exact ⟨true, hF, h.sub [0, 1, 2, 3, 4, 5] (by rfl)⟩
    · replace hF := ff_of hb19 hF
      rcases Bool.eq_false_or_eq_true a_3.f_Failed with hb20 | hb20
      · replace hF := tt_of hb20 hF
        refine reg mixed hn hG h [0, 1, 2, 3, 5, 500] (ov [5] (op_move q0) <| ov [500] (op_bin bin_lss q0 qi) <| ov [500] (op_move q0) <| oe [500, 4] [] (GOk.on_eq hb19 rfl rfl rfl (op_fieldAddr_lbm (p := (b1 0)) (n := 1) 0 70 Tryd.underlying31 rfl Tryd.sizeOf4 (by decide) q0 rfl)) <| oe [501, 500, 6] [] (GOk.on_eq hb19 rfl rfl rfl (op_load_lb1 [one (intVP .u32 a_3.f_Chain), one (intVP .u32 a_3.f_Here), bytesCk 32 a_3.f_Updater, one (slVP (dC 32) a_3.f_Watchers), one (intVP .u64 a_3.f_Window), bytesCk 32 a_3.f_Committed, one (slVP S_api_Timed.ck a_3.f_Roots), one (slVP S_api_State.ck a_3.f_States)] [one (boolVP a_3.f_Cut)] 1 Tryd.isAgg4 q0 rfl rfl)) <| ov [502, 500] (op_pick_f hb19 q0 q1) <| ov [500] (op_move q0) <| oe [500] [] (GOk.off_v (want := false) hb20 rfl rfl rfl rfl) <| oe [501] [] (GOk.off_v (want := false) hb20 rfl rfl rfl rfl) <| ov [502] (op_pick_t hb20 q0 qb) .nil) fun _ a w h => ?_
        exact ⟨true, hF, h.sub [0, 1, 2, 3, 4, 5] (by rfl)⟩
      · replace hF := ff_of hb20 hF
        refine reg mixed hn hG h [0, 1, 2, 3, 5, 500] (ov [5] (op_move q0) <| ov [500] (op_bin bin_lss q0 qi) <| ov [500] (op_move q0) <| oe [500, 4] [] (GOk.on_eq hb19 rfl rfl rfl (op_fieldAddr_lbm (p := (b1 0)) (n := 1) 0 70 Tryd.underlying31 rfl Tryd.sizeOf4 (by decide) q0 rfl)) <| oe [501, 500, 6] [] (GOk.on_eq hb19 rfl rfl rfl (op_load_lb1 [one (intVP .u32 a_3.f_Chain), one (intVP .u32 a_3.f_Here), bytesCk 32 a_3.f_Updater, one (slVP (dC 32) a_3.f_Watchers), one (intVP .u64 a_3.f_Window), bytesCk 32 a_3.f_Committed, one (slVP S_api_Timed.ck a_3.f_Roots), one (slVP S_api_State.ck a_3.f_States)] [one (boolVP a_3.f_Cut)] 1 Tryd.isAgg4 q0 rfl rfl)) <| ov [502, 500] (op_pick_f hb19 q0 q1) <| ov [500] (op_move q0) <| oe [500, 4] [] (GOk.on_eq hb20 rfl rfl rfl (op_fieldAddr_lbm (p := (b1 0)) (n := 1) 0 71 Tryd.underlying31 rfl Tryd.sizeOf4 (by decide) q0 rfl)) <| oe [501, 500, 6] [] (GOk.on_eq hb20 rfl rfl rfl (op_load_lb1 [one (intVP .u32 a_3.f_Chain), one (intVP .u32 a_3.f_Here), bytesCk 32 a_3.f_Updater, one (slVP (dC 32) a_3.f_Watchers), one (intVP .u64 a_3.f_Window), bytesCk 32 a_3.f_Committed, one (slVP S_api_Timed.ck a_3.f_Roots), one (slVP S_api_State.ck a_3.f_States), one (boolVP a_3.f_Failed)] [] 1 Tryd.isAgg4 q0 rfl rfl)) <| ov [502, 500] (op_pick_f hb20 q0 q1) .nil) fun _ a w h => ?_
        exact ⟨a_3.f_Cut, hF, h.sub [0, 1, 2, 3, 4, 5] (by rfl)⟩
  · clear h hF
    rintro a w ⟨x3, hF, h⟩
    unfold ref23_Step.j1 at hF
    show Code.wp Tryd.prog _ _ a w
    refine cnd h hF 5 [0] [0, 1, 2, 3, 4] (fun hb4 hF h => ?_) (fun hb4 hF h => ?_)
    · refine regS mixed hn hG h [501, 500] (ov [0] (op_move q0) <| ov [500] (op_assign q0) <| ov [] (op_assign (opc (ec _))) .nil) fun _ a w h => ?_
      refine wp_ret ?_
      obtain rfl := Option.some.inj hF
      exact ⟨.inl rfl, retn h (rs := [.tmp 10, .tmp 11]) (Vs := [(strVP a_0), (slVP S_api_Update.ck [])]) Tryd.results15 (by decide) ⟨(r_tmp 0 rfl), (r_nil 1 rfl), trivial⟩ [] [] rfl rfl rfl⟩
    · refine wp_skip ?_
      show Code.wp Tryd.prog _ _ a w
      refine wp_seq ?_
      refine regS mixed hn hG h [0, 1, 2, 3, 4, 500] (ov [3] (op_move q0) <| ov [500] (op_bin bin_eql q0 qi) .nil) fun _ a w h => ?_
      refine cnd h hF 5 [0] [0, 1, 2, 3, 4] (fun hb5 hF h => ?_) (fun hb5 hF h => ?_)
      · refine regS mixed hn hG h [501, 500] (ov [0] (op_move q0) <| ov [500] (op_assign q0) <| ov [] (op_assign (opc (ec _))) .nil) fun _ a w h => ?_
        refine wp_ret ?_
        obtain rfl := Option.some.inj hF
        exact ⟨.inl rfl, retn h (rs := [.tmp 10, .tmp 11]) (Vs := [(strVP a_0), (slVP S_api_Update.ck [])]) Tryd.results15 (by decide) ⟨(r_tmp 0 rfl), (r_nil 1 rfl), trivial⟩ [] [] rfl rfl rfl⟩
      · refine wp_skip ?_
        show Code.wp Tryd.prog _ _ a w
        obtain ⟨r6, hr6, hF⟩ := bind_some hF
        refine regS mixed hn hG h [2, 3, 4, 502, 500] (ov [0] (op_move q0) <| ov [1] (op_move q0) <| oc [501, 500] [] Tryd.call72 (ref21_Read_ok hr6) ⟨q0, qi, q1, trivial⟩ <| ob [] (op_alloc Tryd.zeroValue142 z142) <| og [501, 502] [500] [.res 3 100000 (fun v1_ _ => (lb (v1_) 142 [one (intVP .u8 r6.f_Kind), one (intVP .u32 r6.f_Home), one (intVP .u64 r6.f_Next), bytesCk 32 r6.f_Old, bytesCk 32 r6.f_New, one (intVP .u64 r6.f_Sent)]))] (GOk.plain (op_store_w Tryd.sizeOf142 q0 q1 (cells_agg _)) rfl) .nil) fun b7 a w h => ?_
        refine regS mixed hn hG h [0, 1, 2, 3, 500, 4] (ov [3] (op_fieldAddr_lbm (p := (b7 3)) (n := 1) 0 67 Tryd.underlying142 rfl Tryd.sizeOf27 (by decide) q0 rfl) <| ov [500, 4] (op_load_lb1 [one (intVP .u8 r6.f_Kind), one (intVP .u32 r6.f_Home), one (intVP .u64 r6.f_Next), bytesCk 32 r6.f_Old, bytesCk 32 r6.f_New] [] 1 Tryd.isAgg27 q0 rfl rfl) <| ov [500] (op_assign q0) .nil) fun _ a w h => ?_
        refine wp_seq ?_
        obtain ⟨hv8, hF⟩ := ite_some hF
        refine regS mixed hn hG h [0, 1, 2, 3, 4, 500, 5] (ov [3] (op_fieldAddr_lbm (p := (b7 3)) (n := 32) 0 35 Tryd.underlying142 rfl Tryd.sizeOf25 (by decide) q0 rfl) <| ov [500, 5] (op_load_lb [one (intVP .u8 r6.f_Kind), one (intVP .u32 r6.f_Home), one (intVP .u64 r6.f_Next), bytesCk 32 r6.f_Old] [bytesCk 32 r6.f_New] [one (intVP .u64 r6.f_Sent)] 1 Tryd.isAgg25 Tryd.sizeOf25 q0 rfl rfl rfl) <| ov [0] (op_move q0) <| ov [2] (op_move q0) <| ov [501, 500] (op_indexAddr_sl Tryd.underlying23 Tryd.sizeOf37 S_api_Update.lens q0 q1 hv8) <| ov [500] (op_fieldAddr_pp (n := 32) [one (intVP .u32 ((a_2.getD r2.toNat default).f_Home)), bytesCk 32 ((a_2.getD r2.toNat default).f_Old)] _ Tryd.underlying37 rfl Tryd.sizeOf25 (by decide) q0 rfl) <| ov [500] (op_load_pp [bytesCk 32 ((a_2.getD r2.toNat default).f_New)] [one (intVP .i64 (((a_2.getD r2.toNat default).f_Sig).f_Index)), one (slVP (dC 32) (((a_2.getD r2.toNat default).f_Sig).f_Parts)), one (slVP (dC 32) (((a_2.getD r2.toNat default).f_Sig).f_Others)), one (slVP (dC 32) (((a_2.getD r2.toNat default).f_Sig).f_Path))] Tryd.isAgg25 Tryd.sizeOf25 q0 rfl) <| ov [505, 500] (op_bin (bin_aneq Tryd.underlying25 Tryd.underlying5 Tryd.type5 Tryd.sizeOf5 Tryd.isAgg5 Tryd.eqGuardType25) q0 q1) .nil) fun _ a w h => ?_
        refine wp_cut (fun a w => ∃ (x9 : Int), ref23_Step.j2 a_2 a_4 r2 r6 x9 = some r ∧ SatL c [.slot 2 (slVP S_api_Update.ck a_2), .slot 4 (intVP .i64 a_4), .slot 12 (intVP .i64 r2), .slot 13 (lpVP (b7 3) 0), .slot 14 (intVP .u64 x9), .res (lb (b7 3) 142 [one (intVP .u8 r6.f_Kind), one (intVP .u32 r6.f_Home), one (intVP .u64 r6.f_Next), bytesCk 32 r6.f_Old, bytesCk 32 r6.f_New, one (intVP .u64 r6.f_Sent)])] a w) ?_ ?_
        · refine cnd h hF 5 [0, 1, 2, 3, 6] [0, 1, 2, 3, 4, 6] (fun hb18 hF h => ?_) (fun hb18 hF h => ?_)
          · refine reg mixed hn hG h [0, 1, 2, 3, 500, 4] (ov [] (op_assign qi) .nil) fun _ a w h => ?_
            exact ⟨0, hF, h.sub [0, 1, 2, 3, 4, 5] (by rfl)⟩
          · refine wp_skip ?_
            exact ⟨r6.f_Sent, hF, h.sub [0, 1, 2, 3, 4, 5] (by rfl)⟩
        · clear h hF
          rintro a w ⟨x9, hF, h⟩
          unfold ref23_Step.j2 at hF
          show Code.wp Tryd.prog _ _ a w
          refine wp_seq ?_
          refine regS mixed hn hG h [0, 1, 2, 3, 4, 500, 5] (ov [4] (op_move q0) <| ov [500] (op_bin bin_gtr q0 qi) .nil) fun _ a w h => ?_
          refine wp_cut (fun a w => ∃ (x10 : Int), ref23_Step.j3 a_2 a_4 r2 r6 x10 = some r ∧ SatL c [.slot 2 (slVP S_api_Update.ck a_2), .slot 4 (intVP .i64 a_4), .slot 12 (intVP .i64 r2), .slot 13 (lpVP (b7 3) 0), .slot 14 (intVP .u64 x10), .res (lb (b7 3) 142 [one (intVP .u8 r6.f_Kind), one (intVP .u32 r6.f_Home), one (intVP .u64 r6.f_Next), bytesCk 32 r6.f_Old, bytesCk 32 r6.f_New, one (intVP .u64 r6.f_Sent)])] a w) ?_ ?_
          · refine cnd h hF 5 [0, 1, 2, 3, 6] [0, 1, 2, 3, 4, 6] (fun hb17 hF h => ?_) (fun hb17 hF h => ?_)
            · refine reg mixed hn hG h [0, 1, 2, 3, 500, 4] (ov [] (op_assign qi) .nil) fun _ a w h => ?_
              exact ⟨999999, hF, h.sub [0, 1, 2, 3, 4, 5] (by rfl)⟩
            · refine wp_skip ?_
              exact ⟨x9, hF, h.sub [0, 1, 2, 3, 4, 5] (by rfl)⟩
          · clear h hF
            rintro a w ⟨x10, hF, h⟩
            unfold ref23_Step.j3 at hF
            show Code.wp Tryd.prog _ _ a w
            refine regS mixed hn hG h [0, 1, 2, 3, 4, 500] (ov [2] (op_move q0) <| ov [500] (op_convert_int Tryd.underlying3 Tryd.underlying27 q0) <| ov [3] (op_fieldAddr_lbm (p := (b7 3)) (n := 1) 0 2 Tryd.underlying142 rfl Tryd.sizeOf27 (by decide) q0 rfl) <| ou [500, 501] 5 (op_store_lb [one (intVP .u8 r6.f_Kind), one (intVP .u32 r6.f_Home)] [one (intVP .u64 r6.f_Next)] [bytesCk 32 r6.f_Old, bytesCk 32 r6.f_New, one (intVP .u64 r6.f_Sent)] [one (intVP .u64 (IntKind.wrap .u64 r2))] Tryd.sizeOf27 q0 q1 (cells_one (one_int _ _)) rfl rfl rfl) .nil) fun _ a w h => ?_
            obtain ⟨hv11, hF⟩ := ite_some hF
            refine regS mixed hn hG h [0, 1, 2, 3, 4, 500] (ov [0] (op_move q0) <| ov [2] (op_move q0) <| ov [501, 500] (op_indexAddr_sl Tryd.underlying23 Tryd.sizeOf37 S_api_Update.lens q0 q1 hv11) <| ov [500] (op_fieldAddr_pp (n := 32) [one (intVP .u32 ((a_2.getD r2.toNat default).f_Home))] _ Tryd.underlying37 rfl Tryd.sizeOf25 (by decide) q0 rfl) <| ov [500] (op_load_pp [bytesCk 32 ((a_2.getD r2.toNat default).f_Old)] [bytesCk 32 ((a_2.getD r2.toNat default).f_New), one (intVP .i64 (((a_2.getD r2.toNat default).f_Sig).f_Index)), one (slVP (dC 32) (((a_2.getD r2.toNat default).f_Sig).f_Parts)), one (slVP (dC 32) (((a_2.getD r2.toNat default).f_Sig).f_Others)), one (slVP (dC 32) (((a_2.getD r2.toNat default).f_Sig).f_Path))] Tryd.isAgg25 Tryd.sizeOf25 q0 rfl) <| ov [3] (op_fieldAddr_lbm (p := (b7 3)) (n := 32) 0 3 Tryd.underlying142 rfl Tryd.sizeOf25 (by decide) q0 rfl) <| ou [500, 501] 5 (op_store_lb [one (intVP .u8 r6.f_Kind), one (intVP .u32 r6.f_Home), one (intVP .u64 (IntKind.wrap .u64 r2))] [bytesCk 32 r6.f_Old] [bytesCk 32 r6.f_New, one (intVP .u64 r6.f_Sent)] [bytesCk 32 ((a_2.getD r2.toNat default).f_Old)] Tryd.sizeOf25 q0 q1 (cells_agg _) rfl rfl rfl) .nil) fun _ a w h => ?_
            obtain ⟨hv12, hF⟩ := ite_some hF
            refine regS mixed hn hG h [0, 1, 2, 3, 4, 500] (ov [0] (op_move q0) <| ov [2] (op_move q0) <| ov [501, 500] (op_indexAddr_sl Tryd.underlying23 Tryd.sizeOf37 S_api_Update.lens q0 q1 hv12) <| ov [500] (op_fieldAddr_pp (n := 32) [one (intVP .u32 ((a_2.getD r2.toNat default).f_Home)), bytesCk 32 ((a_2.getD r2.toNat default).f_Old)] _ Tryd.underlying37 rfl Tryd.sizeOf25 (by decide) q0 rfl) <| ov [500] (op_load_pp [bytesCk 32 ((a_2.getD r2.toNat default).f_New)] [one (intVP .i64 (((a_2.getD r2.toNat default).f_Sig).f_Index)), one (slVP (dC 32) (((a_2.getD r2.toNat default).f_Sig).f_Parts)), one (slVP (dC 32) (((a_2.getD r2.toNat default).f_Sig).f_Others)), one (slVP (dC 32) (((a_2.getD r2.toNat default).f_Sig).f_Path))] Tryd.isAgg25 Tryd.sizeOf25 q0 rfl) <| ov [3] (op_fieldAddr_lbm (p := (b7 3)) (n := 32) 0 35 Tryd.underlying142 rfl Tryd.sizeOf25 (by decide) q0 rfl) <| ou [500, 501] 5 (op_store_lb [one (intVP .u8 r6.f_Kind), one (intVP .u32 r6.f_Home), one (intVP .u64 (IntKind.wrap .u64 r2)), bytesCk 32 ((a_2.getD r2.toNat default).f_Old)] [bytesCk 32 r6.f_New] [one (intVP .u64 r6.f_Sent)] [bytesCk 32 ((a_2.getD r2.toNat default).f_New)] Tryd.sizeOf25 q0 q1 (cells_agg _) rfl rfl rfl) .nil) fun _ a w h => ?_
            refine regS mixed hn hG h [0, 1, 2, 3, 500] (ov [4] (op_move q0) <| ov [500] (op_bin bin_add q0 qi) <| ov [3] (op_fieldAddr_lbm (p := (b7 3)) (n := 1) 0 67 Tryd.underlying142 rfl Tryd.sizeOf27 (by decide) q0 rfl) <| ou [500, 501] 5 (op_store_lb [one (intVP .u8 r6.f_Kind), one (intVP .u32 r6.f_Home), one (intVP .u64 (IntKind.wrap .u64 r2)), bytesCk 32 ((a_2.getD r2.toNat default).f_Old), bytesCk 32 ((a_2.getD r2.toNat default).f_New)] [one (intVP .u64 r6.f_Sent)] [] [one (intVP .u64 (IntKind.wrap .u64 (x10 + 1)))] Tryd.sizeOf27 q0 q1 (cells_one (one_int _ _)) rfl rfl rfl) .nil) fun _ a w h => ?_
            refine wp_seq ?_
            refine regS mixed hn hG h [0, 2, 3, 500, 4] (ov [1] (op_move q0) <| ov [500] (op_bin bin_eql q0 qi) .nil) fun _ a w h => ?_
            refine cnd h hF 3 [2, 4] [0, 1, 2, 4] (fun hb13 hF h => ?_) (fun hb13 hF h => ?_)
            · obtain ⟨r14, hr14, hF⟩ := bind_some hF
              refine regS mixed hn hG h [501, 500] (ov [0, 1] (op_load_w 1 Tryd.isAgg142 Tryd.sizeOf142 q0) <| oc [500] [] Tryd.call73 (ref21_Bytes_ok hr14) ⟨q0, trivial⟩ <| ov [500] (op_assign q0) <| ov [] (op_assign (opc (ec _))) .nil) fun _ a w h => ?_
              refine wp_ret ?_
              obtain rfl := Option.some.inj hF
              exact ⟨.inl rfl, retn h (rs := [.tmp 10, .tmp 11]) (Vs := [(strVP r14), (slVP S_api_Update.ck [])]) Tryd.results15 (by decide) ⟨(r_tmp 0 rfl), (r_nil 1 rfl), trivial⟩ [] [] rfl rfl rfl⟩
            · refine wp_skip ?_
              show Code.wp Tryd.prog _ _ a w
              obtain ⟨r15, hr15, hF⟩ := bind_some hF
              obtain ⟨hv16, hF⟩ := ite_some hF
              refine regS mixed hn hG h [501, 500] (ov [2, 3] (op_load_w 1 Tryd.isAgg142 Tryd.sizeOf142 q0) <| oc [500] [] Tryd.call73 (ref21_Bytes_ok hr15) ⟨q0, trivial⟩ <| ov [0] (op_move q0) <| ov [1] (op_move q0) <| ov [501, 500] (op_indexAddr_sl Tryd.underlying23 Tryd.sizeOf37 S_api_Update.lens q0 q1 hv16) <| ov [500] (op_load_pp [one (intVP .u32 ((a_2.getD r2.toNat default).f_Home)), bytesCk 32 ((a_2.getD r2.toNat default).f_Old), bytesCk 32 ((a_2.getD r2.toNat default).f_New), one (intVP .i64 (((a_2.getD r2.toNat default).f_Sig).f_Index)), one (slVP (dC 32) (((a_2.getD r2.toNat default).f_Sig).f_Parts)), one (slVP (dC 32) (((a_2.getD r2.toNat default).f_Sig).f_Others)), one (slVP (dC 32) (((a_2.getD r2.toNat default).f_Sig).f_Path))] [] Tryd.isAgg37 Tryd.sizeOf37 q0 rfl) <| ov [500] (op_lit (xs := [.tmp 76]) (ys := [a_2.getD r2.toNat default]) _ rfl Tryd.underlying23 Tryd.sizeOf37 Tryd.zeroValue37 rfl rfl (by decide) (by decide) ⟨⟨_, q0, (cells_agg _)⟩, trivial⟩ S_api_Update.lens) <| ov [505] (op_assign q0) <| ov [501] (op_assign q0) .nil) fun _ a w h => ?_
              refine wp_ret ?_
              obtain rfl := Option.some.inj hF
              exact ⟨.inl rfl, retn h (rs := [.tmp 10, .tmp 11]) (Vs := [(strVP r15), (slVP S_api_Update.ck [a_2.getD r2.toNat default])]) Tryd.results15 (by decide) ⟨(r_tmp 0 rfl), (r_tmp 1 rfl), trivial⟩ [] [] rfl rfl rfl⟩

def ref03_SameList.b1 (a_0 : List (List UInt8)) (a_1 : List (List UInt8)) (x6 : Int) : Option (Flow Bool Int) := (if (decide (x6 < (a_0.length : Int))) = true then (if (0 : Int) ≤ x6 ∧ x6 < a_0.length then (if (0 : Int) ≤ x6 ∧ x6 < a_1.length then (if (!decide ((a_0.getD x6.toNat default) = (a_1.getD x6.toNat default))) = true then some (.ret false) else some (.cont (IntKind.wrap .i64 (x6 + 1)))) else none) else none) else some (.brk x6))
def ref03_SameList (a_0 : List (List UInt8)) (a_1 : List (List UInt8)) : Option Bool := (if (!decide ((a_0.length : Int) = (a_1.length : Int))) = true then some false else ((loopN (fun s : Int => ref03_SameList.b1 a_0 a_1 s) (((a_0.length : Int) - 0 : Int).toNat + 2) 0).bind fun cr => match cr with | .ret r => some r | .next y20 => some true))
theorem ref03_SameList_ok {a_0 : List (List UInt8)} {a_1 : List (List UInt8)} {r : Bool} (hF : ref03_SameList a_0 a_1 = some r) : CallOk Tryd.prog KG 92 [(slVP (dC 32) a_0), (slVP (dC 32) a_1)] [] (fun _ => []) (boolVP r) := by
  refine CallOk.intro 26 Tryd.func92 rfl Tryd.ntmps92 (Nat.le_of_ble_eq_true rfl) ?_
  intro c a w hG hn h
  unfold ref03_SameList at hF
  change SatL c [.slot 0 (slVP (dC 32) a_0), .slot 1 (slVP (dC 32) a_1)] a w at h
  refine regS mixed hn hG h [0, 1] (ov [] (op_assign qb) .nil) fun _ a w h => ?_
  refine wp_seq ?_
  refine regS mixed hn hG h [0, 1, 500] (ov [0] (op_move q0) <| ov [500] (op_len_sl Tryd.underlying26 q0) <| ov [1] (op_move q0) <| ov [500] (op_len_sl Tryd.underlying26 q0) <| ov [502, 500] (op_bin bin_neq q0 q1) .nil) fun _ a w h => ?_
  refine cnd h hF 2 [] [0, 1] (fun hb1 hF h => ?_) (fun hb1 hF h => ?_)
  · refine regS mixed hn hG h [500] (ov [] (op_assign qb) .nil) fun _ a w h => ?_
    refine wp_ret ?_
    obtain rfl := Option.some.inj hF
    exact ⟨.inl rfl, ret1 h Tryd.results92 (r_tmp 0 rfl) [] [] rfl rfl rfl⟩
  · refine wp_skip ?_
    show Code.wp Tryd.prog _ _ a w
    refine wp_seq ?_
    refine regS mixed hn hG h [0, 1, 501, 500] (ov [0] (op_move q0) <| ov [500] (op_len_sl Tryd.underlying26 q0) <| ov [] (op_move qi) .nil) fun _ a w h => ?_
    refine wp_block ?_
    obtain ⟨cr16, hl17, hF⟩ := bind_some hF
    refine wp_mono (wp_loopN (R := Bool) (S := Int) (fun s a w => SatL c [.slot 0 (slVP (dC 32) a_0), .slot 1 (slVP (dC 32) a_1), .slot 12 (intVP .i64 (a_0.length : Int)), .slot 13 (intVP .i64 s)] a w) (fun res e a w => match res with | .next s => e = .exit 0 ∧ SatL c [] a w | .ret r => e = .ret ∧ RetOk Tryd.prog Tryd.f92 c (boolVP r) (fun _ => []) a w) ?_ _ 0 _ _ _ (h.sub [0, 1, 2, 3] (by rfl)) hl17) ?_
    · clear hl17 hF h
      intro x6 a w o h hF
      change ref03_SameList.b1 a_0 a_1 x6 = some o at hF
      unfold ref03_SameList.b1 at hF
      change SatL c [.slot 0 (slVP (dC 32) a_0), .slot 1 (slVP (dC 32) a_1), .slot 12 (intVP .i64 (a_0.length : Int)), .slot 13 (intVP .i64 x6)] a w at h
      refine regS mixed hn hG h [0, 1, 2, 3, 500] (ov [3, 2] (op_bin bin_lss q0 q1) .nil) fun _ a w h => ?_
      refine wp_seq ?_
      refine cnd h hF 4 [0, 1, 2, 3] [0, 1, 2, 3] (fun hb12 hF h => ?_) (fun hb12 hF h => ?_)
      · refine wp_skip ?_
        show Code.wp Tryd.prog _ _ a w
        refine wp_seq ?_
        refine wp_block ?_
        refine regS mixed hn hG h [0, 1, 500, 2, 3] (ov [3] (op_move q0) <| ov [500] (op_assign q0) .nil) fun _ a w h => ?_
        obtain ⟨hv13, hF⟩ := ite_some hF
        obtain ⟨hv14, hF⟩ := ite_some hF
        refine regS mixed hn hG h [0, 1, 3, 4, 500] (ov [0] (op_move q0) <| ov [2] (op_move q0) <| ov [501, 500] (op_indexAddr_sl Tryd.underlying26 Tryd.sizeOf25 (lens_dC 32) q0 q1 hv13) <| ov [500] (op_load_pp [bytesCk 32 (a_0.getD x6.toNat default)] [] Tryd.isAgg25 Tryd.sizeOf25 q0 rfl) <| ov [1] (op_move q0) <| ov [2] (op_move q0) <| ov [501, 500] (op_indexAddr_sl Tryd.underlying26 Tryd.sizeOf25 (lens_dC 32) q0 q1 hv14) <| ov [500] (op_load_pp [bytesCk 32 (a_1.getD x6.toNat default)] [] Tryd.isAgg25 Tryd.sizeOf25 q0 rfl) <| ov [504, 500] (op_bin (bin_aneq Tryd.underlying25 Tryd.underlying5 Tryd.type5 Tryd.sizeOf5 Tryd.isAgg5 Tryd.eqGuardType25) q0 q1) .nil) fun _ a w h => ?_
        refine cnd h hF 4 [] [0, 1, 2, 3] (fun hb15 hF h => ?_) (fun hb15 hF h => ?_)
        · refine regS mixed hn hG h [500] (ov [] (op_assign qb) .nil) fun _ a w h => ?_
          refine wp_ret ?_
          obtain rfl := Option.some.inj hF
          exact ⟨ret_ne, rfl, ret1 h Tryd.results92 (r_tmp 0 rfl) [] [] rfl rfl rfl⟩
        · refine wp_skip ?_
          show Code.wp Tryd.prog _ _ a w
          refine reg mixed hn hG h [0, 1, 2, 500] (ov [3] (op_bin bin_add q0 qi) <| od [500] 3 (op_move q0) .nil) fun _ a w h => ?_
          obtain rfl := Option.some.inj hF
          exact ⟨rfl, h.sub [0, 1, 2, 3] (by rfl)⟩
      · refine wp_exit ?_
        obtain rfl := Option.some.inj hF
        exact ⟨exit_ne _, rfl, h.sub [] (by rfl)⟩
    · clear hl17
      intro e a w hq
      cases cr16 with
      | ret r18 =>
        obtain ⟨rfl, hq⟩ := hq
        obtain rfl := Option.some.inj hF
        exact ⟨.inl rfl, hq⟩
      | next y20 =>
        obtain ⟨rfl, h⟩ := hq
        change SatL c [] a w at h
        refine inBlock_at ?_
        show Code.wp Tryd.prog _ _ a w
        refine regS mixed hn hG h [500] (ov [] (op_assign qb) .nil) fun _ a w h => ?_
        refine wp_ret ?_
        obtain rfl := Option.some.inj hF
        exact ⟨.inl rfl, ret1 h Tryd.results92 (r_tmp 0 rfl) [] [] rfl rfl rfl⟩

def ref03_SameSig.j1 (x6 : Bool) : Option Bool := some x6
def ref03_SameSig (a_0 : S_api_Sig) (a_1 : S_api_Sig) : Option Bool := (if (decide (a_0.f_Index = a_1.f_Index)) = true then ((ref03_SameList a_0.f_Parts a_1.f_Parts).bind fun r3 => (if r3 = true then ((ref03_SameList a_0.f_Others a_1.f_Others).bind fun r4 => (if r4 = true then ((ref03_SameList a_0.f_Path a_1.f_Path).bind fun r5 => ref03_SameSig.j1 r5) else ref03_SameSig.j1 false)) else ref03_SameSig.j1 false)) else ref03_SameSig.j1 false)
theorem ref03_SameSig_ok {a_0 : S_api_Sig} {a_1 : S_api_Sig} {r : Bool} (hF : ref03_SameSig a_0 a_1 = some r) : CallOk Tryd.prog KG 77 [(aggVP [one (intVP .i64 a_0.f_Index), one (slVP (dC 32) a_0.f_Parts), one (slVP (dC 32) a_0.f_Others), one (slVP (dC 32) a_0.f_Path)]), (aggVP [one (intVP .i64 a_1.f_Index), one (slVP (dC 32) a_1.f_Parts), one (slVP (dC 32) a_1.f_Others), one (slVP (dC 32) a_1.f_Path)])] [] (fun _ => []) (boolVP r) := by
  refine CallOk.intro 31 Tryd.func77 rfl Tryd.ntmps77 (Nat.le_of_ble_eq_true rfl) ?_
  intro c a w hG hn h
  unfold ref03_SameSig at hF
  change SatL c [.slot 0 (aggVP [one (intVP .i64 a_0.f_Index), one (slVP (dC 32) a_0.f_Parts), one (slVP (dC 32) a_0.f_Others), one (slVP (dC 32) a_0.f_Path)]), .slot 1 (aggVP [one (intVP .i64 a_1.f_Index), one (slVP (dC 32) a_1.f_Parts), one (slVP (dC 32) a_1.f_Others), one (slVP (dC 32) a_1.f_Path)])] a w at h
  refine regS mixed hn hG h [504, 502, 503, 501] (ob [0] (op_box q0 (cells_agg _)) <| ob [1] (op_box q0 (cells_agg _)) <| ov [] (op_assign qb) .nil) fun b1 a w h => ?_
  refine wp_seq ?_
  refine wp_cut (fun a w => ∃ (x6 : Bool), ref03_SameSig.j1 x6 = some r ∧ SatL c [.slot 4 (boolVP x6)] a w) ?_ ?_
  · rcases Bool.eq_false_or_eq_true (decide (a_0.f_Index = a_1.f_Index)) with hb7 | hb7
    · replace hF := tt_of hb7 hF
      obtain ⟨r3, hr3, hF⟩ := bind_some hF
      rcases Bool.eq_false_or_eq_true r3 with hb8 | hb8
      · replace hF := tt_of hb8 hF
        obtain ⟨r4, hr4, hF⟩ := bind_some hF
        rcases Bool.eq_false_or_eq_true r4 with hb9 | hb9
        · replace hF := tt_of hb9 hF
          obtain ⟨r5, hr5, hF⟩ := bind_some hF
          refine reg mixed hn hG h [500] (ov [0] (op_fieldAddr_lbm (p := (b1 0)) (n := 1) 0 0 Tryd.underlying35 rfl Tryd.sizeOf3 (by decide) q0 rfl) <| ov [500, 2] (op_load_lb1 [] [one (slVP (dC 32) a_0.f_Parts), one (slVP (dC 32) a_0.f_Others), one (slVP (dC 32) a_0.f_Path)] 1 Tryd.isAgg3 q0 rfl rfl) <| ov [1] (op_fieldAddr_lbm (p := (b1 1)) (n := 1) 0 0 Tryd.underlying35 rfl Tryd.sizeOf3 (by decide) q0 rfl) <| ov [500, 3] (op_load_lb1 [] [one (slVP (dC 32) a_1.f_Parts), one (slVP (dC 32) a_1.f_Others), one (slVP (dC 32) a_1.f_Path)] 1 Tryd.isAgg3 q0 rfl rfl) <| ov [502, 500] (op_bin bin_eql q0 q1) <| ov [500] (op_move q0) <| oe [500, 0] [] (GOk.on_eq hb7 rfl rfl rfl (op_fieldAddr_lbm (p := (b1 0)) (n := 1) 0 1 Tryd.underlying35 rfl Tryd.sizeOf26 (by decide) q0 rfl)) <| oe [501, 500, 2] [] (GOk.on_eq hb7 rfl rfl rfl (op_load_lb1 [one (intVP .i64 a_0.f_Index)] [one (slVP (dC 32) a_0.f_Others), one (slVP (dC 32) a_0.f_Path)] 1 Tryd.isAgg26 q0 rfl rfl)) <| oe [502, 1] [] (GOk.on_eq hb7 rfl rfl rfl (op_fieldAddr_lbm (p := (b1 1)) (n := 1) 0 1 Tryd.underlying35 rfl Tryd.sizeOf26 (by decide) q0 rfl)) <| oe [503, 500, 3] [] (GOk.on_eq hb7 rfl rfl rfl (op_load_lb1 [one (intVP .i64 a_1.f_Index)] [one (slVP (dC 32) a_1.f_Others), one (slVP (dC 32) a_1.f_Path)] 1 Tryd.isAgg26 q0 rfl rfl)) <| oe [504, 502, 500] [] (GOk.on_eq hb7 rfl rfl rfl (op_call Tryd.call92 (ref03_SameList_ok hr3) ⟨q0, q1, trivial⟩)) <| ov [505, 500] (op_pick_t hb7 q0 q1) <| ov [500] (op_move q0) <| oe [500, 0] [] (GOk.on_eq hb8 rfl rfl rfl (op_fieldAddr_lbm (p := (b1 0)) (n := 1) 0 2 Tryd.underlying35 rfl Tryd.sizeOf26 (by decide) q0 rfl)) <| oe [501, 500, 2] [] (GOk.on_eq hb8 rfl rfl rfl (op_load_lb1 [one (intVP .i64 a_0.f_Index), one (slVP (dC 32) a_0.f_Parts)] [one (slVP (dC 32) a_0.f_Path)] 1 Tryd.isAgg26 q0 rfl rfl)) <| oe [502, 1] [] (GOk.on_eq hb8 rfl rfl rfl (op_fieldAddr_lbm (p := (b1 1)) (n := 1) 0 2 Tryd.underlying35 rfl Tryd.sizeOf26 (by decide) q0 rfl)) <| oe [503, 500, 3] [] (GOk.on_eq hb8 rfl rfl rfl (op_load_lb1 [one (intVP .i64 a_1.f_Index), one (slVP (dC 32) a_1.f_Parts)] [one (slVP (dC 32) a_1.f_Path)] 1 Tryd.isAgg26 q0 rfl rfl)) <| oe [504, 502, 500] [] (GOk.on_eq hb8 rfl rfl rfl (op_call Tryd.call92 (ref03_SameList_ok hr4) ⟨q0, q1, trivial⟩)) <| ov [505, 500] (op_pick_t hb8 q0 q1) <| ov [500] (op_move q0) <| oe [500, 0] [] (GOk.on_eq hb9 rfl rfl rfl (op_fieldAddr_lbm (p := (b1 0)) (n := 1) 0 3 Tryd.underlying35 rfl Tryd.sizeOf26 (by decide) q0 rfl)) <| oe [501, 500, 2] [] (GOk.on_eq hb9 rfl rfl rfl (op_load_lb1 [one (intVP .i64 a_0.f_Index), one (slVP (dC 32) a_0.f_Parts), one (slVP (dC 32) a_0.f_Others)] [] 1 Tryd.isAgg26 q0 rfl rfl)) <| oe [502, 1] [] (GOk.on_eq hb9 rfl rfl rfl (op_fieldAddr_lbm (p := (b1 1)) (n := 1) 0 3 Tryd.underlying35 rfl Tryd.sizeOf26 (by decide) q0 rfl)) <| oe [503, 500, 3] [] (GOk.on_eq hb9 rfl rfl rfl (op_load_lb1 [one (intVP .i64 a_1.f_Index), one (slVP (dC 32) a_1.f_Parts), one (slVP (dC 32) a_1.f_Others)] [] 1 Tryd.isAgg26 q0 rfl rfl)) <| oe [504, 502, 500] [] (GOk.on_eq hb9 rfl rfl rfl (op_call Tryd.call92 (ref03_SameList_ok hr5) ⟨q0, q1, trivial⟩)) <| ov [505, 500] (op_pick_t hb9 q0 q1) <| ov [500] (op_assign q0) .nil) fun _ a w h => ?_
          exact ⟨r5, hF, h.sub [0] (by rfl)⟩
        · replace hF := ff_of hb9 hF
          refine reg mixed hn hG h [500] (ov [0] (op_fieldAddr_lbm (p := (b1 0)) (n := 1) 0 0 Tryd.underlying35 rfl Tryd.sizeOf3 (by decide) q0 rfl) <| ov [500, 2] (op_load_lb1 [] [one (slVP (dC 32) a_0.f_Parts), one (slVP (dC 32) a_0.f_Others), one (slVP (dC 32) a_0.f_Path)] 1 Tryd.isAgg3 q0 rfl rfl) <| ov [1] (op_fieldAddr_lbm (p := (b1 1)) (n := 1) 0 0 Tryd.underlying35 rfl Tryd.sizeOf3 (by decide) q0 rfl) <| ov [500, 3] (op_load_lb1 [] [one (slVP (dC 32) a_1.f_Parts), one (slVP (dC 32) a_1.f_Others), one (slVP (dC 32) a_1.f_Path)] 1 Tryd.isAgg3 q0 rfl rfl) <| ov [502, 500] (op_bin bin_eql q0 q1) <| ov [500] (op_move q0) <| oe [500, 0] [] (GOk.on_eq hb7 rfl rfl rfl (op_fieldAddr_lbm (p := (b1 0)) (n := 1) 0 1 Tryd.underlying35 rfl Tryd.sizeOf26 (by decide) q0 rfl)) <| oe [501, 500, 2] [] (GOk.on_eq hb7 rfl rfl rfl (op_load_lb1 [one (intVP .i64 a_0.f_Index)] [one (slVP (dC 32) a_0.f_Others), one (slVP (dC 32) a_0.f_Path)] 1 Tryd.isAgg26 q0 rfl rfl)) <| oe [502, 1] [] (GOk.on_eq hb7 rfl rfl rfl (op_fieldAddr_lbm (p := (b1 1)) (n := 1) 0 1 Tryd.underlying35 rfl Tryd.sizeOf26 (by decide) q0 rfl)) <| oe [503, 500, 3] [] (GOk.on_eq hb7 rfl rfl rfl (op_load_lb1 [one (intVP .i64 a_1.f_Index)] [one (slVP (dC 32) a_1.f_Others), one (slVP (dC 32) a_1.f_Path)] 1 Tryd.isAgg26 q0 rfl rfl)) <| oe [504, 502, 500] [] (GOk.on_eq hb7 rfl rfl rfl (op_call Tryd.call92 (ref03_SameList_ok hr3) ⟨q0, q1, trivial⟩)) <| ov [505, 500] (op_pick_t hb7 q0 q1) <| ov [500] (op_move q0) <| oe [500, 0] [] (GOk.on_eq hb8 rfl rfl rfl (op_fieldAddr_lbm (p := (b1 0)) (n := 1) 0 2 Tryd.underlying35 rfl Tryd.sizeOf26 (by decide) q0 rfl)) <| oe [501, 500, 2] [] (GOk.on_eq hb8 rfl rfl rfl (op_load_lb1 [one (intVP .i64 a_0.f_Index), one (slVP (dC 32) a_0.f_Parts)] [one (slVP (dC 32) a_0.f_Path)] 1 Tryd.isAgg26 q0 rfl rfl)) <| oe [502, 1] [] (GOk.on_eq hb8 rfl rfl rfl (op_fieldAddr_lbm (p := (b1 1)) (n := 1) 0 2 Tryd.underlying35 rfl Tryd.sizeOf26 (by decide) q0 rfl)) <| oe [503, 500, 3] [] (GOk.on_eq hb8 rfl rfl rfl (op_load_lb1 [one (intVP .i64 a_1.f_Index), one (slVP (dC 32) a_1.f_Parts)] [one (slVP (dC 32) a_1.f_Path)] 1 Tryd.isAgg26 q0 rfl rfl)) <| oe [504, 502, 500] [] (GOk.on_eq hb8 rfl rfl rfl (op_call Tryd.call92 (ref03_SameList_ok hr4) ⟨q0, q1, trivial⟩)) <| ov [505, 500] (op_pick_t hb8 q0 q1) <| ov [500] (op_move q0) <| oe [500] [] (GOk.off_v (want := true) hb9 rfl rfl rfl rfl) <| oe [501] [] (GOk.off_v (want := true) hb9 rfl rfl rfl rfl) <| oe [502] [] (GOk.off_v (want := true) hb9 rfl rfl rfl rfl) <| oe [503] [] (GOk.off_v (want := true) hb9 rfl rfl rfl rfl) <| oe [504] [] (GOk.off_v (want := true) hb9 rfl rfl rfl rfl) <| ov [505] (op_pick_f hb9 q0 qb) <| ov [500] (op_assign q0) .nil) fun _ a w h => ?_
          exact ⟨false, hF, h.sub [0] (by rfl)⟩
      · replace hF := ff_of hb8 hF
        refine reg mixed hn hG h [500] (ov [0] (op_fieldAddr_lbm (p := (b1 0)) (n := 1) 0 0 Tryd.underlying35 rfl Tryd.sizeOf3 (by decide) q0 rfl) <| ov [500, 2] (op_load_lb1 [] [one (slVP (dC 32) a_0.f_Parts), one (slVP (dC 32) a_0.f_Others), one (slVP (dC 32) a_0.f_Path)] 1 Tryd.isAgg3 q0 rfl rfl) <| ov [1] (op_fieldAddr_lbm (p := (b1 1)) (n := 1) 0 0 Tryd.underlying35 rfl Tryd.sizeOf3 (by decide) q0 rfl) <| ov [500, 3] (op_load_lb1 [] [one (slVP (dC 32) a_1.f_Parts), one (slVP (dC 32) a_1.f_Others), one (slVP (dC 32) a_1.f_Path)] 1 Tryd.isAgg3 q0 rfl rfl) <| ov [502, 500] (op_bin bin_eql q0 q1) <| ov [500] (op_move q0) <| oe [500, 0] [] (GOk.on_eq hb7 rfl rfl rfl (op_fieldAddr_lbm (p := (b1 0)) (n := 1) 0 1 Tryd.underlying35 rfl Tryd.sizeOf26 (by decide) q0 rfl)) <| oe [501, 500, 2] [] (GOk.on_eq hb7 rfl rfl rfl (op_load_lb1 [one (intVP .i64 a_0.f_Index)] [one (slVP (dC 32) a_0.f_Others), one (slVP (dC 32) a_0.f_Path)] 1 Tryd.isAgg26 q0 rfl rfl)) <| oe [502, 1] [] (GOk.on_eq hb7 rfl rfl rfl (op_fieldAddr_lbm (p := (b1 1)) (n := 1) 0 1 Tryd.underlying35 rfl Tryd.sizeOf26 (by decide) q0 rfl)) <| oe [503, 500, 3] [] (GOk.on_eq hb7 rfl rfl rfl (op_load_lb1 [one (intVP .i64 a_1.f_Index)] [one (slVP (dC 32) a_1.f_Others), one (slVP (dC 32) a_1.f_Path)] 1 Tryd.isAgg26 q0 rfl rfl)) <| oe [504, 502, 500] [] (GOk.on_eq hb7 rfl rfl rfl (op_call Tryd.call92 (ref03_SameList_ok hr3) ⟨q0, q1, trivial⟩)) <| ov [505, 500] (op_pick_t hb7 q0 q1) <| ov [500] (op_move q0) <| oe [500] [] (GOk.off_v (want := true) hb8 rfl rfl rfl rfl) <| oe [501] [] (GOk.off_v (want := true) hb8 rfl rfl rfl rfl) <| oe [502] [] (GOk.off_v (want := true) hb8 rfl rfl rfl rfl) <| oe [503] [] (GOk.off_v (want := true) hb8 rfl rfl rfl rfl) <| oe [504] [] (GOk.off_v (want := true) hb8 rfl rfl rfl rfl) <| ov [505] (op_pick_f hb8 q0 qb) <| ov [500] (op_move q0) <| oe [500] [] (GOk.off_v (want := true) rfl rfl rfl rfl rfl) <| oe [501] [] (GOk.off_v (want := true) rfl rfl rfl rfl rfl) <| oe [502] [] (GOk.off_v (want := true) rfl rfl rfl rfl rfl) <| oe [503] [] (GOk.off_v (want := true) rfl rfl rfl rfl rfl) <| oe [504] [] (GOk.off_v (want := true) rfl rfl rfl rfl rfl) <| ov [505] (op_pick_f rfl q0 qb) <| ov [500] (op_assign q0) .nil) fun _ a w h => ?_
        exact ⟨false, hF, h.sub [0] (by rfl)⟩
    · replace hF := ff_of hb7 hF
      refine reg mixed hn hG h [500] (ov [0] (op_fieldAddr_lbm (p := (b1 0)) (n := 1) 0 0 Tryd.underlying35 rfl Tryd.sizeOf3 (by decide) q0 rfl) <| ov [500, 2] (op_load_lb1 [] [one (slVP (dC 32) a_0.f_Parts), one (slVP (dC 32) a_0.f_Others), one (slVP (dC 32) a_0.f_Path)] 1 Tryd.isAgg3 q0 rfl rfl) <| ov [1] (op_fieldAddr_lbm (p := (b1 1)) (n := 1) 0 0 Tryd.underlying35 rfl Tryd.sizeOf3 (by decide) q0 rfl) <| ov [500, 3] (op_load_lb1 [] [one (slVP (dC 32) a_1.f_Parts), one (slVP (dC 32) a_1.f_Others), one (slVP (dC 32) a_1.f_Path)] 1 Tryd.isAgg3 q0 rfl rfl) <| ov [502, 500] (op_bin bin_eql q0 q1) <| ov [500] (op_move q0) <| oe [500] [] (GOk.off_v (want := true) hb7 rfl rfl rfl rfl) <| oe [501] [] (GOk.off_v (want := true) hb7 rfl rfl rfl rfl) <| oe [502] [] (GOk.off_v (want := true) hb7 rfl rfl rfl rfl) <| oe [503] [] (GOk.off_v (want := true) hb7 rfl rfl rfl rfl) <| oe [504] [] (GOk.off_v (want := true) hb7 rfl rfl rfl rfl) <| ov [505] (op_pick_f hb7 q0 qb) <| ov [500] (op_move q0) <| oe [500] [] (GOk.off_v (want := true) rfl rfl rfl rfl rfl) <| oe [501] [] (GOk.off_v (want := true) rfl rfl rfl rfl rfl) <| oe [502] [] (GOk.off_v (want := true) rfl rfl rfl rfl rfl) <| oe [503] [] (GOk.off_v (want := true) rfl rfl rfl rfl rfl) <| oe [504] [] (GOk.off_v (want := true) rfl rfl rfl rfl rfl) <| ov [505] (op_pick_f rfl q0 qb) <| ov [500] (op_move q0) <| oe [500] [] (GOk.off_v (want := true) rfl rfl rfl rfl rfl) <| oe [501] [] (GOk.off_v (want := true) rfl rfl rfl rfl rfl) <| oe [502] [] (GOk.off_v (want := true) rfl rfl rfl rfl rfl) <| oe [503] [] (GOk.off_v (want := true) rfl rfl rfl rfl rfl) <| oe [504] [] (GOk.off_v (want := true) rfl rfl rfl rfl rfl) <| ov [505] (op_pick_f rfl q0 qb) <| ov [500] (op_assign q0) .nil) fun _ a w h => ?_
      exact ⟨false, hF, h.sub [0] (by rfl)⟩
  · clear h hF
    rintro a w ⟨x6, hF, h⟩
    unfold ref03_SameSig.j1 at hF
    show Code.wp Tryd.prog _ _ a w
    refine wp_ret ?_
    obtain rfl := Option.some.inj hF
    exact ⟨.inl rfl, ret1 h Tryd.results77 (r_tmp 0 rfl) [] [] rfl rfl rfl⟩

def ref10_Same.j1 (x4 : Bool) : Option Bool := some x4
def ref10_Same (a_0 : S_api_Update) (a_1 : S_api_Update) : Option Bool := (if (decide (a_0.f_Home = a_1.f_Home)) = true then (if (decide (a_0.f_Old = a_1.f_Old)) = true then (if (decide (a_0.f_New = a_1.f_New)) = true then ((ref03_SameSig a_0.f_Sig a_1.f_Sig).bind fun r3 => ref10_Same.j1 r3) else ref10_Same.j1 false) else ref10_Same.j1 false) else ref10_Same.j1 false)
theorem ref10_Same_ok {a_0 : S_api_Update} {a_1 : S_api_Update} {r : Bool} (hF : ref10_Same a_0 a_1 = some r) : CallOk Tryd.prog KG 20 [(aggVP [one (intVP .u32 a_0.f_Home), bytesCk 32 a_0.f_Old, bytesCk 32 a_0.f_New, one (intVP .i64 a_0.f_Sig.f_Index), one (slVP (dC 32) a_0.f_Sig.f_Parts), one (slVP (dC 32) a_0.f_Sig.f_Others), one (slVP (dC 32) a_0.f_Sig.f_Path)]), (aggVP [one (intVP .u32 a_1.f_Home), bytesCk 32 a_1.f_Old, bytesCk 32 a_1.f_New, one (intVP .i64 a_1.f_Sig.f_Index), one (slVP (dC 32) a_1.f_Sig.f_Parts), one (slVP (dC 32) a_1.f_Sig.f_Others), one (slVP (dC 32) a_1.f_Sig.f_Path)])] [] (fun _ => []) (boolVP r) := by
  refine CallOk.intro 31 Tryd.func20 rfl Tryd.ntmps20 (Nat.le_of_ble_eq_true rfl) ?_
  intro c a w hG hn h
  unfold ref10_Same at hF
  change SatL c [.slot 0 (aggVP [one (intVP .u32 a_0.f_Home), bytesCk 32 a_0.f_Old, bytesCk 32 a_0.f_New, one (intVP .i64 a_0.f_Sig.f_Index), one (slVP (dC 32) a_0.f_Sig.f_Parts), one (slVP (dC 32) a_0.f_Sig.f_Others), one (slVP (dC 32) a_0.f_Sig.f_Path)]), .slot 1 (aggVP [one (intVP .u32 a_1.f_Home), bytesCk 32 a_1.f_Old, bytesCk 32 a_1.f_New, one (intVP .i64 a_1.f_Sig.f_Index), one (slVP (dC 32) a_1.f_Sig.f_Parts), one (slVP (dC 32) a_1.f_Sig.f_Others), one (slVP (dC 32) a_1.f_Sig.f_Path)])] a w at h
  refine regS mixed hn hG h [504, 502, 503, 501] (ob [0] (op_box q0 (cells_agg _)) <| ob [1] (op_box q0 (cells_agg _)) <| ov [] (op_assign qb) .nil) fun b1 a w h => ?_
  refine wp_seq ?_
  refine wp_cut (fun a w => ∃ (x4 : Bool), ref10_Same.j1 x4 = some r ∧ SatL c [.slot 4 (boolVP x4)] a w) ?_ ?_
  · rcases Bool.eq_false_or_eq_true (decide (a_0.f_Home = a_1.f_Home)) with hb5 | hb5
    · replace hF := tt_of hb5 hF
      rcases Bool.eq_false_or_eq_true (decide (a_0.f_Old = a_1.f_Old)) with hb6 | hb6
      · replace hF := tt_of hb6 hF
        rcases Bool.eq_false_or_eq_true (decide (a_0.f_New = a_1.f_New)) with hb7 | hb7
        · replace hF := tt_of hb7 hF
          obtain ⟨r3, hr3, hF⟩ := bind_some hF
          refine reg mixed hn hG h [500] (ov [0] (op_fieldAddr_lbm (p := (b1 0)) (n := 1) 0 0 Tryd.underlying37 rfl Tryd.sizeOf22 (by decide) q0 rfl) <| ov [500, 2] (op_load_lb1 [] [bytesCk 32 a_0.f_Old, bytesCk 32 a_0.f_New, one (intVP .i64 a_0.f_Sig.f_Index), one (slVP (dC 32) a_0.f_Sig.f_Parts), one (slVP (dC 32) a_0.f_Sig.f_Others), one (slVP (dC 32) a_0.f_Sig.f_Path)] 1 Tryd.isAgg22 q0 rfl rfl) <| ov [1] (op_fieldAddr_lbm (p := (b1 1)) (n := 1) 0 0 Tryd.underlying37 rfl Tryd.sizeOf22 (by decide) q0 rfl) <| ov [500, 3] (op_load_lb1 [] [bytesCk 32 a_1.f_Old, bytesCk 32 a_1.f_New, one (intVP .i64 a_1.f_Sig.f_Index), one (slVP (dC 32) a_1.f_Sig.f_Parts), one (slVP (dC 32) a_1.f_Sig.f_Others), one (slVP (dC 32) a_1.f_Sig.f_Path)] 1 Tryd.isAgg22 q0 rfl rfl) <| ov [502, 500] (op_bin bin_eql q0 q1) <| ov [500] (op_move q0) <| oe [500, 0] [] (GOk.on_eq hb5 rfl rfl rfl (op_fieldAddr_lbm (p := (b1 0)) (n := 32) 0 1 Tryd.underlying37 rfl Tryd.sizeOf25 (by decide) q0 rfl)) <| oe [501, 500, 2] [] (GOk.on_eq hb5 rfl rfl rfl (op_load_lb [one (intVP .u32 a_0.f_Home)] [bytesCk 32 a_0.f_Old] [bytesCk 32 a_0.f_New, one (intVP .i64 a_0.f_Sig.f_Index), one (slVP (dC 32) a_0.f_Sig.f_Parts), one (slVP (dC 32) a_0.f_Sig.f_Others), one (slVP (dC 32) a_0.f_Sig.f_Path)] 1 Tryd.isAgg25 Tryd.sizeOf25 q0 rfl rfl rfl)) <| oe [502, 1] [] (GOk.on_eq hb5 rfl rfl rfl (op_fieldAddr_lbm (p := (b1 1)) (n := 32) 0 1 Tryd.underlying37 rfl Tryd.sizeOf25 (by decide) q0 rfl)) <| oe [503, 500, 3] [] (GOk.on_eq hb5 rfl rfl rfl (op_load_lb [one (intVP .u32 a_1.f_Home)] [bytesCk 32 a_1.f_Old] [bytesCk 32 a_1.f_New, one (intVP .i64 a_1.f_Sig.f_Index), one (slVP (dC 32) a_1.f_Sig.f_Parts), one (slVP (dC 32) a_1.f_Sig.f_Others), one (slVP (dC 32) a_1.f_Sig.f_Path)] 1 Tryd.isAgg25 Tryd.sizeOf25 q0 rfl rfl rfl)) <| oe [504, 502, 500] [] (GOk.on_eq hb5 rfl rfl rfl (op_bin (bin_aeql Tryd.underlying25 Tryd.underlying5 Tryd.type5 Tryd.sizeOf5 Tryd.isAgg5 Tryd.eqGuardType25) q0 q1)) <| ov [505, 500] (op_pick_t hb5 q0 q1) <| ov [500] (op_move q0) <| oe [500, 0] [] (GOk.on_eq hb6 rfl rfl rfl (op_fieldAddr_lbm (p := (b1 0)) (n := 32) 0 33 Tryd.underlying37 rfl Tryd.sizeOf25 (by decide) q0 rfl)) <| oe [501, 500, 2] [] (GOk.on_eq hb6 rfl rfl rfl (op_load_lb [one (intVP .u32 a_0.f_Home), bytesCk 32 a_0.f_Old] [bytesCk 32 a_0.f_New] [one (intVP .i64 a_0.f_Sig.f_Index), one (slVP (dC 32) a_0.f_Sig.f_Parts), one (slVP (dC 32) a_0.f_Sig.f_Others), one (slVP (dC 32) a_0.f_Sig.f_Path)] 1 Tryd.isAgg25 Tryd.sizeOf25 q0 rfl rfl rfl)) <| oe [502, 1] [] (GOk.on_eq hb6 rfl rfl rfl (op_fieldAddr_lbm (p := (b1 1)) (n := 32) 0 33 Tryd.underlying37 rfl Tryd.sizeOf25 (by decide) q0 rfl)) <| oe [503, 500, 3] [] (GOk.on_eq hb6 rfl rfl rfl (op_load_lb [one (intVP .u32 a_1.f_Home), bytesCk 32 a_1.f_Old] [bytesCk 32 a_1.f_New] [one (intVP .i64 a_1.f_Sig.f_Index), one (slVP (dC 32) a_1.f_Sig.f_Parts), one (slVP (dC 32) a_1.f_Sig.f_Others), one (slVP (dC 32) a_1.f_Sig.f_Path)] 1 Tryd.isAgg25 Tryd.sizeOf25 q0 rfl rfl rfl)) <| oe [504, 502, 500] [] (GOk.on_eq hb6 rfl rfl rfl (op_bin (bin_aeql Tryd.underlying25 Tryd.underlying5 Tryd.type5 Tryd.sizeOf5 Tryd.isAgg5 Tryd.eqGuardType25) q0 q1)) <| ov [505, 500] (op_pick_t hb6 q0 q1) <| ov [500] (op_move q0) <| oe [500, 0] [] (GOk.on_eq hb7 rfl rfl rfl (op_fieldAddr_lbm (p := (b1 0)) (n := 4) 0 65 Tryd.underlying37 rfl Tryd.sizeOf35 (by decide) q0 rfl)) <| oe [501, 500, 2] [] (GOk.on_eq hb7 rfl rfl rfl (op_load_lb [one (intVP .u32 a_0.f_Home), bytesCk 32 a_0.f_Old, bytesCk 32 a_0.f_New] [one (intVP .i64 a_0.f_Sig.f_Index), one (slVP (dC 32) a_0.f_Sig.f_Parts), one (slVP (dC 32) a_0.f_Sig.f_Others), one (slVP (dC 32) a_0.f_Sig.f_Path)] [] 1 Tryd.isAgg35 Tryd.sizeOf35 q0 rfl rfl rfl)) <| oe [502, 1] [] (GOk.on_eq hb7 rfl rfl rfl (op_fieldAddr_lbm (p := (b1 1)) (n := 4) 0 65 Tryd.underlying37 rfl Tryd.sizeOf35 (by decide) q0 rfl)) <| oe [503, 500, 3] [] (GOk.on_eq hb7 rfl rfl rfl (op_load_lb [one (intVP .u32 a_1.f_Home), bytesCk 32 a_1.f_Old, bytesCk 32 a_1.f_New] [one (intVP .i64 a_1.f_Sig.f_Index), one (slVP (dC 32) a_1.f_Sig.f_Parts), one (slVP (dC 32) a_1.f_Sig.f_Others), one (slVP (dC 32) a_1.f_Sig.f_Path)] [] 1 Tryd.isAgg35 Tryd.sizeOf35 q0 rfl rfl rfl)) <| oe [504, 502, 500] [] (GOk.on_eq hb7 rfl rfl rfl (op_call Tryd.call77 (ref03_SameSig_ok hr3) ⟨q0, q1, trivial⟩)) <| ov [505, 500] (op_pick_t hb7 q0 q1) <| ov [500] (op_assign q0) .nil) fun _ a w h => ?_
          exact ⟨r3, hF, h.sub [0] (by rfl)⟩
        · replace hF := ff_of hb7 hF
          refine reg mixed hn hG h [500] (ov [0] (op_fieldAddr_lbm (p := (b1 0)) (n := 1) 0 0 Tryd.underlying37 rfl Tryd.sizeOf22 (by decide) q0 rfl) <| ov [500, 2] (op_load_lb1 [] [bytesCk 32 a_0.f_Old, bytesCk 32 a_0.f_New, one (intVP .i64 a_0.f_Sig.f_Index), one (slVP (dC 32) a_0.f_Sig.f_Parts), one (slVP (dC 32) a_0.f_Sig.f_Others), one (slVP (dC 32) a_0.f_Sig.f_Path)] 1 Tryd.isAgg22 q0 rfl rfl) <| ov [1] (op_fieldAddr_lbm (p := (b1 1)) (n := 1) 0 0 Tryd.underlying37 rfl Tryd.sizeOf22 (by decide) q0 rfl) <| ov [500, 3] (op_load_lb1 [] [bytesCk 32 a_1.f_Old, bytesCk 32 a_1.f_New, one (intVP .i64 a_1.f_Sig.f_Index), one (slVP (dC 32) a_1.f_Sig.f_Parts), one (slVP (dC 32) a_1.f_Sig.f_Others), one (slVP (dC 32) a_1.f_Sig.f_Path)] 1 Tryd.isAgg22 q0 rfl rfl) <| ov [502, 500] (op_bin bin_eql q0 q1) <| ov [500] (op_move q0) <| oe [500, 0] [] (GOk.on_eq hb5 rfl rfl rfl (op_fieldAddr_lbm (p := (b1 0)) (n := 32) 0 1 Tryd.underlying37 rfl Tryd.sizeOf25 (by decide) q0 rfl)) <| oe [501, 500, 2] [] (GOk.on_eq hb5 rfl rfl rfl (op_load_lb [one (intVP .u32 a_0.f_Home)] [bytesCk 32 a_0.f_Old] [bytesCk 32 a_0.f_New, one (intVP .i64 a_0.f_Sig.f_Index), one (slVP (dC 32) a_0.f_Sig.f_Parts), one (slVP (dC 32) a_0.f_Sig.f_Others), one (slVP (dC 32) a_0.f_Sig.f_Path)] 1 Tryd.isAgg25 Tryd.sizeOf25 q0 rfl rfl rfl)) <| oe [502, 1] [] (GOk.on_eq hb5 rfl rfl rfl (op_fieldAddr_lbm (p := (b1 1)) (n := 32) 0 1 Tryd.underlying37 rfl Tryd.sizeOf25 (by decide) q0 rfl)) <| oe [503, 500, 3] [] (GOk.on_eq hb5 rfl rfl rfl (op_load_lb [one (intVP .u32 a_1.f_Home)] [bytesCk 32 a_1.f_Old] [bytesCk 32 a_1.f_New, one (intVP .i64 a_1.f_Sig.f_Index), one (slVP (dC 32) a_1.f_Sig.f_Parts), one (slVP (dC 32) a_1.f_Sig.f_Others), one (slVP (dC 32) a_1.f_Sig.f_Path)] 1 Tryd.isAgg25 Tryd.sizeOf25 q0 rfl rfl rfl)) <| oe [504, 502, 500] [] (GOk.on_eq hb5 rfl rfl rfl (op_bin (bin_aeql Tryd.underlying25 Tryd.underlying5 Tryd.type5 Tryd.sizeOf5 Tryd.isAgg5 Tryd.eqGuardType25) q0 q1)) <| ov [505, 500] (op_pick_t hb5 q0 q1) <| ov [500] (op_move q0) <| oe [500, 0] [] (GOk.on_eq hb6 rfl rfl rfl (op_fieldAddr_lbm (p := (b1 0)) (n := 32) 0 33 Tryd.underlying37 rfl Tryd.sizeOf25 (by decide) q0 rfl)) <| oe [501, 500, 2] [] (GOk.on_eq hb6 rfl rfl rfl (op_load_lb [one (intVP .u32 a_0.f_Home), bytesCk 32 a_0.f_Old] [bytesCk 32 a_0.f_New] [one (intVP .i64 a_0.f_Sig.f_Index), one (slVP (dC 32) a_0.f_Sig.f_Parts), one (slVP (dC 32) a_0.f_Sig.f_Others), one (slVP (dC 32) a_0.f_Sig.f_Path)] 1 Tryd.isAgg25 Tryd.sizeOf25 q0 rfl rfl rfl)) <| oe [502, 1] [] (GOk.on_eq hb6 rfl rfl rfl (op_fieldAddr_lbm (p := (b1 1)) (n := 32) 0 33 Tryd.underlying37 rfl Tryd.sizeOf25 (by decide) q0 rfl)) <| oe [503, 500, 3] [] (GOk.on_eq hb6 rfl rfl rfl (op_load_lb [one (intVP .u32 a_1.f_Home), bytesCk 32 a_1.f_Old] [bytesCk 32 a_1.f_New] [one (intVP .i64 a_1.f_Sig.f_Index), one (slVP (dC 32) a_1.f_Sig.f_Parts), one (slVP (dC 32) a_1.f_Sig.f_Others), one (slVP (dC 32) a_1.f_Sig.f_Path)] 1 Tryd.isAgg25 Tryd.sizeOf25 q0 rfl rfl rfl)) <| oe [504, 502, 500] [] (GOk.on_eq hb6 rfl rfl rfl (op_bin (bin_aeql Tryd.underlying25 Tryd.underlying5 Tryd.type5 Tryd.sizeOf5 Tryd.isAgg5 Tryd.eqGuardType25) q0 q1)) <| ov [505, 500] (op_pick_t hb6 q0 q1) <| ov [500] (op_move q0) <| oe [500] [] (GOk.off_v (want := true) hb7 rfl rfl rfl rfl) <| oe [501] [] (GOk.off_v (want := true) hb7 rfl rfl rfl rfl) <| oe [502] [] (GOk.off_v (want := true) hb7 rfl rfl rfl rfl) <| oe [503] [] (GOk.off_v (want := true) hb7 rfl rfl rfl rfl) <| oe [504] [] (GOk.off_v (want := true) hb7 rfl rfl rfl rfl) <| ov [505] (op_pick_f hb7 q0 qb) <| ov [500] (op_assign q0) .nil) fun _ a w h => ?_
          exact ⟨false, hF, h.sub [0] (by rfl)⟩
      · replace hF := ff_of hb6 hF
        refine reg mixed hn hG h [500] (ov [0] (op_fieldAddr_lbm (p := (b1 0)) (n := 1) 0 0 Tryd.underlying37 rfl Tryd.sizeOf22 (by decide) q0 rfl) <| ov [500, 2] (op_load_lb1 [] [bytesCk 32 a_0.f_Old, bytesCk 32 a_0.f_New, one (intVP .i64 a_0.f_Sig.f_Index), one (slVP (dC 32) a_0.f_Sig.f_Parts), one (slVP (dC 32) a_0.f_Sig.f_Others), one (slVP (dC 32) a_0.f_Sig.f_Path)] 1 Tryd.isAgg22 q0 rfl rfl) <| ov [1] (op_fieldAddr_lbm (p := (b1 1)) (n := 1) 0 0 Tryd.underlying37 rfl Tryd.sizeOf22 (by decide) q0 rfl) <| ov [500, 3] (op_load_lb1 [] [bytesCk 32 a_1.f_Old, bytesCk 32 a_1.f_New, one (intVP .i64 a_1.f_Sig.f_Index), one (slVP (dC 32) a_1.f_Sig.f_Parts), one (slVP (dC 32) a_1.f_Sig.f_Others), one (slVP (dC 32) a_1.f_Sig.f_Path)] 1 Tryd.isAgg22 q0 rfl rfl) <| ov [502, 500] (op_bin bin_eql q0 q1) <| ov [500] (op_move q0) <| oe [500, 0] [] (GOk.on_eq hb5 rfl rfl rfl (op_fieldAddr_lbm (p := (b1 0)) (n := 32) 0 1 Tryd.underlying37 rfl Tryd.sizeOf25 (by decide) q0 rfl)) <| oe [501, 500, 2] [] (GOk.on_eq hb5 rfl rfl rfl (op_load_lb [one (intVP .u32 a_0.f_Home)] [bytesCk 32 a_0.f_Old] [bytesCk 32 a_0.f_New, one (intVP .i64 a_0.f_Sig.f_Index), one (slVP (dC 32) a_0.f_Sig.f_Parts), one (slVP (dC 32) a_0.f_Sig.f_Others), one (slVP (dC 32) a_0.f_Sig.f_Path)] 1 Tryd.isAgg25 Tryd.sizeOf25 q0 rfl rfl rfl)) <| oe [502, 1] [] (GOk.on_eq hb5 rfl rfl rfl (op_fieldAddr_lbm (p := (b1 1)) (n := 32) 0 1 Tryd.underlying37 rfl Tryd.sizeOf25 (by decide) q0 rfl)) <| oe [503, 500, 3] [] (GOk.on_eq hb5 rfl rfl rfl (op_load_lb [one (intVP .u32 a_1.f_Home)] [bytesCk 32 a_1.f_Old] [bytesCk 32 a_1.f_New, one (intVP .i64 a_1.f_Sig.f_Index), one (slVP (dC 32) a_1.f_Sig.f_Parts), one (slVP (dC 32) a_1.f_Sig.f_Others), one (slVP (dC 32) a_1.f_Sig.f_Path)] 1 Tryd.isAgg25 Tryd.sizeOf25 q0 rfl rfl rfl)) <| oe [504, 502, 500] [] (GOk.on_eq hb5 rfl rfl rfl (op_bin (bin_aeql Tryd.underlying25 Tryd.underlying5 Tryd.type5 Tryd.sizeOf5 Tryd.isAgg5 Tryd.eqGuardType25) q0 q1)) <| ov [505, 500] (op_pick_t hb5 q0 q1) <| ov [500] (op_move q0) <| oe [500] [] (GOk.off_v (want := true) hb6 rfl rfl rfl rfl) <| oe [501] [] (GOk.off_v (want := true) hb6 rfl rfl rfl rfl) <| oe [502] [] (GOk.off_v (want := true) hb6 rfl rfl rfl rfl) <| oe [503] [] (GOk.off_v (want := true) hb6 rfl rfl rfl rfl) <| oe [504] [] (GOk.off_v (want := true) hb6 rfl rfl rfl rfl) <| ov [505] (op_pick_f hb6 q0 qb) <| ov [500] (op_move q0) <| oe [500] [] (GOk.off_v (want := true) rfl rfl rfl rfl rfl) <| oe [501] [] (GOk.off_v (want := true) rfl rfl rfl rfl rfl) <| oe [502] [] (GOk.off_v (want := true) rfl rfl rfl rfl rfl) <| oe [503] [] (GOk.off_v (want := true) rfl rfl rfl rfl rfl) <| oe [504] [] (GOk.off_v (want := true) rfl rfl rfl rfl rfl) <| ov [505] (op_pick_f rfl q0 qb) <| ov [500] (op_assign q0) .nil) fun _ a w h => ?_
        exact ⟨false, hF, h.sub [0] (by rfl)⟩
    · replace hF := ff_of hb5 hF
      refine reg mixed hn hG h [500] (ov [0] (op_fieldAddr_lbm (p := (b1 0)) (n := 1) 0 0 Tryd.underlying37 rfl Tryd.sizeOf22 (by decide) q0 rfl) <| ov [500, 2] (op_load_lb1 [] [bytesCk 32 a_0.f_Old, bytesCk 32 a_0.f_New, one (intVP .i64 a_0.f_Sig.f_Index), one (slVP (dC 32) a_0.f_Sig.f_Parts), one (slVP (dC 32) a_0.f_Sig.f_Others), one (slVP (dC 32) a_0.f_Sig.f_Path)] 1 Tryd.isAgg22 q0 rfl rfl) <| ov [1] (op_fieldAddr_lbm (p := (b1 1)) (n := 1) 0 0 Tryd.underlying37 rfl Tryd.sizeOf22 (by decide) q0 rfl) <| ov [500, 3] (op_load_lb1 [] [bytesCk 32 a_1.f_Old, bytesCk 32 a_1.f_New, one (intVP .i64 a_1.f_Sig.f_Index), one (slVP (dC 32) a_1.f_Sig.f_Parts), one (slVP (dC 32) a_1.f_Sig.f_Others), one (slVP (dC 32) a_1.f_Sig.f_Path)] 1 Tryd.isAgg22 q0 rfl rfl) <| ov [502, 500] (op_bin bin_eql q0 q1) <| ov [500] (op_move q0) <| oe [500] [] (GOk.off_v (want := true) hb5 rfl rfl rfl rfl) <| oe [501] [] (GOk.off_v (want := true) hb5 rfl rfl rfl rfl) <| oe [502] [] (GOk.off_v (want := true) hb5 rfl rfl rfl rfl) <| oe [503] [] (GOk.off_v (want := true) hb5 rfl rfl rfl rfl) <| oe [504] [] (GOk.off_v (want := true) hb5 rfl rfl rfl rfl) <| ov [505] (op_pick_f hb5 q0 qb) <| ov [500] (op_move q0) <| oe [500] [] (GOk.off_v (want := true) rfl rfl rfl rfl rfl) <| oe [501] [] (GOk.off_v (want := true) rfl rfl rfl rfl rfl) <| oe [502] [] (GOk.off_v (want := true) rfl rfl rfl rfl rfl) <| oe [503] [] (GOk.off_v (want := true) rfl rfl rfl rfl rfl) <| oe [504] [] (GOk.off_v (want := true) rfl rfl rfl rfl rfl) <| ov [505] (op_pick_f rfl q0 qb) <| ov [500] (op_move q0) <| oe [500] [] (GOk.off_v (want := true) rfl rfl rfl rfl rfl) <| oe [501] [] (GOk.off_v (want := true) rfl rfl rfl rfl rfl) <| oe [502] [] (GOk.off_v (want := true) rfl rfl rfl rfl rfl) <| oe [503] [] (GOk.off_v (want := true) rfl rfl rfl rfl rfl) <| oe [504] [] (GOk.off_v (want := true) rfl rfl rfl rfl rfl) <| ov [505] (op_pick_f rfl q0 qb) <| ov [500] (op_assign q0) .nil) fun _ a w h => ?_
      exact ⟨false, hF, h.sub [0] (by rfl)⟩
  · clear h hF
    rintro a w ⟨x4, hF, h⟩
    unfold ref10_Same.j1 at hF
    show Code.wp Tryd.prog _ _ a w
    refine wp_ret ?_
    obtain rfl := Option.some.inj hF
    exact ⟨.inl rfl, ret1 h Tryd.results20 (r_tmp 0 rfl) [] [] rfl rfl rfl⟩

def law23_RelayerSteps.b1 (a_2 : List (S_api_Update)) (x12 : Int) : Option (Flow Bool Int) := (if (decide (x12 < (a_2.length : Int))) = true then (if (0 : Int) ≤ x12 ∧ x12 < a_2.length then ((law23_short ((a_2.getD x12.toNat default).f_Sig)).bind fun r22 => (if (!r22) = true then some (.ret true) else some (.cont (IntKind.wrap .i64 (x12 + 1))))) else none) else some (.brk x12))
def law23_RelayerSteps.b2 (r30 : S_relayer_Relayer × (List (S_api_Update))) (r32 : (List UInt8) × (List (S_api_Update))) (x44 : Int) : Option (Flow Bool Int) := (if (decide (x44 < (r30.2.length : Int))) = true then (if (0 : Int) ≤ x44 ∧ x44 < r30.2.length then (if (0 : Int) ≤ x44 ∧ x44 < r32.2.length then ((ref10_Same (r30.2.getD x44.toNat default) (r32.2.getD x44.toNat default)).bind fun r54 => (if (!r54) = true then some (.ret false) else some (.cont (IntKind.wrap .i64 (x44 + 1))))) else none) else none) else some (.brk x44))
def law23_RelayerSteps.j3 (x63 : Bool) : Option Bool := some x63
def law23_RelayerSteps.j2 (a_0 : Int) (r30 : S_relayer_Relayer × (List (S_api_Update))) (r32 : (List UInt8) × (List (S_api_Update))) (x37 : Bool) : Option Bool := (if x37 = true then some false else ((loopN (fun s : Int => law23_RelayerSteps.b2 r30 r32 s) (((r30.2.length : Int) - 0 : Int).toNat + 2) 0).bind fun cr => match cr with | .ret r => some r | .next y60 => ((relayer_New a_0).bind fun r61 => (if (decide (r61.f_Disk = [])) = true then ((relayer_New a_0).bind fun r62 => law23_RelayerSteps.j3 (decide (r62.f_Home = a_0))) else law23_RelayerSteps.j3 false))))
def law23_RelayerSteps.j1 (a_0 : Int) (a_1 : List UInt8) (a_2 : List (S_api_Update)) (a_3 : S_api_Replica) (a_4 : Int) (x5 : Bool) : Option Bool := (if x5 = true then some true else ((loopN (fun s : Int => law23_RelayerSteps.b1 a_2 s) (((a_2.length : Int) - 0 : Int).toNat + 2) 0).bind fun cr => match cr with | .ret r => some r | .next y28 => ((relayer_Step (S_relayer_Relayer.mk a_0 a_1) a_2 a_3 a_4).bind fun r30 => ((ref23_Step a_1 a_0 a_2 a_3 a_4).bind fun r32 => (if (!decide (r30.1.f_Disk = r32.1)) = true then law23_RelayerSteps.j2 a_0 r30 r32 true else (if (!decide (r30.1.f_Home = a_0)) = true then law23_RelayerSteps.j2 a_0 r30 r32 true else (if (!decide ((r30.2.length : Int) = (r32.2.length : Int))) = true then law23_RelayerSteps.j2 a_0 r30 r32 true else ((relayer_Fits (S_relayer_Relayer.mk a_0 a_1) a_2 a_3).bind fun r33 => ((ref23_Fits a_1 a_0 a_2 a_3).bind fun r34 => (if (!decide (r33 = r34)) = true then law23_RelayerSteps.j2 a_0 r30 r32 true else ((relayer_Note (S_relayer_Relayer.mk a_0 a_1)).bind fun r35 => ((notes_Read a_1 2 a_0).bind fun r36 => law23_RelayerSteps.j2 a_0 r30 r32 (!((decide (r35.f_Kind = r36.f_Kind)) && ((decide (r35.f_Home = r36.f_Home)) && ((decide (r35.f_Next = r36.f_Next)) && ((decide (r35.f_Old = r36.f_Old)) && ((decide (r35.f_New = r36.f_New)) && ((decide (r35.f_Sent = r36.f_Sent)) && true)))))))))))))))))))
def law23_RelayerSteps (a_0 : Int) (a_1 : List UInt8) (a_2 : List (S_api_Update)) (a_3 : S_api_Replica) (a_4 : Int) : Option Bool := ((law23_awake).bind fun r2 => (if (!r2) = true then some false else (if (decide ((30 : Int) < (a_2.length : Int))) = true then law23_RelayerSteps.j1 a_0 a_1 a_2 a_3 a_4 true else ((law17_Few a_3).bind fun r4 => (if (!r4) = true then law23_RelayerSteps.j1 a_0 a_1 a_2 a_3 a_4 true else law23_RelayerSteps.j1 a_0 a_1 a_2 a_3 a_4 (decide ((2000 : Int) < (a_1.length : Int))))))))
theorem law23_RelayerSteps_ok {a_0 : Int} {a_1 : List UInt8} {a_2 : List (S_api_Update)} {a_3 : S_api_Replica} {a_4 : Int} {r : Bool} (hF : law23_RelayerSteps a_0 a_1 a_2 a_3 a_4 = some r) : CallOk Tryd.prog KG 3 [(intVP .u32 a_0), (strVP a_1), (slVP S_api_Update.ck a_2), (aggVP [one (intVP .u32 a_3.f_Chain), one (intVP .u32 a_3.f_Here), bytesCk 32 a_3.f_Updater, one (slVP (dC 32) a_3.f_Watchers), one (intVP .u64 a_3.f_Window), bytesCk 32 a_3.f_Committed, one (slVP S_api_Timed.ck a_3.f_Roots), one (slVP S_api_State.ck a_3.f_States), one (boolVP a_3.f_Failed), one (boolVP a_3.f_Cut)]), (intVP .i64 a_4)] [] (fun _ => []) (boolVP r) := by
  refine CallOk.intro 129 Tryd.func3 rfl Tryd.ntmps3 (Nat.le_of_ble_eq_true rfl) ?_
  intro c a w hG hn h
  unfold law23_RelayerSteps at hF
  change SatL c [.slot 0 (intVP .u32 a_0), .slot 1 (strVP a_1), .slot 2 (slVP S_api_Update.ck a_2), .slot 3 (aggVP [one (intVP .u32 a_3.f_Chain), one (intVP .u32 a_3.f_Here), bytesCk 32 a_3.f_Updater, one (slVP (dC 32) a_3.f_Watchers), one (intVP .u64 a_3.f_Window), bytesCk 32 a_3.f_Committed, one (slVP S_api_Timed.ck a_3.f_Roots), one (slVP S_api_State.ck a_3.f_States), one (boolVP a_3.f_Failed), one (boolVP a_3.f_Cut)]), .slot 4 (intVP .i64 a_4)] a w at h
  refine regS mixed hn hG h [0, 1, 2, 4, 502, 501] (ob [3] (op_box q0 (cells_agg _)) <| ov [] (op_assign qb) .nil) fun b1 a w h => ?_
  refine wp_seq ?_
  obtain ⟨r2, hr2, hF⟩ := bind_some hF
  refine regS mixed hn hG h [0, 1, 2, 3, 4, 500, 5] (oc [] [] Tryd.call11 (law23_awake_ok hr2) trivial <| ov [500] (op_un (un_not _) q0) .nil) fun _ a w h => ?_
  refine cnd h hF 5 [] [0, 1, 2, 3, 4, 6] (fun hb3 hF h => ?_) (fun hb3 hF h => ?_)
  · refine regS mixed hn hG h [500] (ov [] (op_assign qb) .nil) fun _ a w h => ?_
    refine wp_ret ?_
    obtain rfl := Option.some.inj hF
    exact ⟨.inl rfl, ret1 h Tryd.results3 (r_tmp 0 rfl) [] [] rfl rfl rfl⟩
  · refine wp_skip ?_
    show Code.wp Tryd.prog _ _ a w
    refine wp_seq ?_
    refine wp_seq ?_
    refine wp_cut (fun a w => ∃ (x5 : Bool), law23_RelayerSteps.j1 a_0 a_1 a_2 a_3 a_4 x5 = some r ∧ SatL c [.slot 0 (intVP .u32 a_0), .slot 1 (strVP a_1), .slot 2 (slVP S_api_Update.ck a_2), .slot 4 (intVP .i64 a_4), .slot 8 (lpVP (b1 0) 0), .slot 33 (boolVP x5), .res (lb (b1 0) 31 [one (intVP .u32 a_3.f_Chain), one (intVP .u32 a_3.f_Here), bytesCk 32 a_3.f_Updater, one (slVP (dC 32) a_3.f_Watchers), one (intVP .u64 a_3.f_Window), bytesCk 32 a_3.f_Committed, one (slVP S_api_Timed.ck a_3.f_Roots), one (slVP S_api_State.ck a_3.f_States), one (boolVP a_3.f_Failed), one (boolVP a_3.f_Cut)])] a w) ?_ ?_
    · rcases Bool.eq_false_or_eq_true (decide ((30 : Int) < (a_2.length : Int))) with hb69 | hb69
      · replace hF := tt_of hb69 hF
        refine reg mixed hn hG h [0, 1, 2, 3, 4, 500, 5] (ov [2] (op_move q0) <| ov [500] (op_len_sl Tryd.underlying23 q0) <| ov [500] (op_bin bin_gtr q0 qi) <| ov [500] (op_move q0) <| oe [500] [] (GOk.off_v (want := false) hb69 rfl rfl rfl rfl) <| oe [501] [] (GOk.off_v (want := false) hb69 rfl rfl rfl rfl) <| oe [502] [] (GOk.off_v (want := false) hb69 rfl rfl rfl rfl) <| ov [503] (op_pick_t hb69 q0 qb) <| ov [500] (op_move q0) <| oe [500] [] (GOk.off_v (want := false) rfl rfl rfl rfl rfl) <| oe [501] [] (GOk.off_v (want := false) rfl rfl rfl rfl rfl) <| oe [502] [] (GOk.off_v (want := false) rfl rfl rfl rfl rfl) <| ov [503] (op_pick_t rfl q0 qb) .nil) fun _ a w h => ?_
        exact ⟨true, hF, h.sub [0, 1, 2, 3, 4, 5, 6] (by rfl)⟩
      · replace hF := ff_of hb69 hF
        obtain ⟨r4, hr4, hF⟩ := bind_some hF
        rcases Bool.eq_false_or_eq_true (!r4) with hb70 | hb70
        · replace hF := tt_of hb70 hF
          refine reg mixed hn hG h [0, 1, 2, 3, 4, 500, 5] (ov [2] (op_move q0) <| ov [500] (op_len_sl Tryd.underlying23 q0) <| ov [500] (op_bin bin_gtr q0 qi) <| ov [500] (op_move q0) <| oe [500, 4, 5] [] (GOk.on_eq hb69 rfl rfl rfl (op_load_w 1 Tryd.isAgg31 Tryd.sizeOf31 q0)) <| oe [501, 500] [] (GOk.on_eq hb69 rfl rfl rfl (op_call Tryd.call12 (law17_Few_ok hr4) ⟨q0, trivial⟩)) <| oe [502, 500] [] (GOk.on_eq hb69 rfl rfl rfl (op_un (un_not _) q0)) <| ov [503, 500] (op_pick_f hb69 q0 q1) <| ov [500] (op_move q0) <| oe [500] [] (GOk.off_v (want := false) hb70 rfl rfl rfl rfl) <| oe [501] [] (GOk.off_v (want := false) hb70 rfl rfl rfl rfl) <| oe [502] [] (GOk.off_v (want := false) hb70 rfl rfl rfl rfl) <| ov [503] (op_pick_t hb70 q0 qb) .nil) fun _ a w h => ?_
          exact ⟨true, hF, h.sub [0, 1, 2, 3, 4, 5, 6] (by rfl)⟩
        · replace hF := ff_of hb70 hF
          refine reg mixed hn hG h [0, 1, 2, 3, 4, 500, 5] (ov [2] (op_move q0) <| ov [500] (op_len_sl Tryd.underlying23 q0) <| ov [500] (op_bin bin_gtr q0 qi) <| ov [500] (op_move q0) <| oe [500, 4, 5] [] (GOk.on_eq hb69 rfl rfl rfl (op_load_w 1 Tryd.isAgg31 Tryd.sizeOf31 q0)) <| oe [501, 500] [] (GOk.on_eq hb69 rfl rfl rfl (op_call Tryd.call12 (law17_Few_ok hr4) ⟨q0, trivial⟩)) <| oe [502, 500] [] (GOk.on_eq hb69 rfl rfl rfl (op_un (un_not _) q0)) <| ov [503, 500] (op_pick_f hb69 q0 q1) <| ov [500] (op_move q0) <| oe [500, 1] [] (GOk.on_eq hb70 rfl rfl rfl (op_move q0)) <| oe [501, 500] [] (GOk.on_eq hb70 rfl rfl rfl (op_len_str Tryd.underlying9 q0)) <| oe [502, 500] [] (GOk.on_eq hb70 rfl rfl rfl (op_bin bin_gtr q0 qi)) <| ov [503, 500] (op_pick_f hb70 q0 q1) .nil) fun _ a w h => ?_
          exact ⟨decide ((2000 : Int) < (a_1.length : Int)), hF, h.sub [0, 1, 2, 3, 4, 5, 6] (by rfl)⟩
    · clear h hF
      rintro a w ⟨x5, hF, h⟩
      unfold law23_RelayerSteps.j1 at hF
      show Code.wp Tryd.prog _ _ a w
      refine cnd h hF 5 [] [0, 1, 2, 3, 4, 6] (fun hb6 hF h => ?_) (fun hb6 hF h => ?_)
      · refine regS mixed hn hG h [500] (ov [] (op_assign qb) .nil) fun _ a w h => ?_
        refine wp_ret ?_
        obtain rfl := Option.some.inj hF
        exact ⟨.inl rfl, ret1 h Tryd.results3 (r_tmp 0 rfl) [] [] rfl rfl rfl⟩
      · refine wp_skip ?_
        show Code.wp Tryd.prog _ _ a w
        refine wp_seq ?_
        refine regS mixed hn hG h [0, 1, 2, 3, 4, 502, 501, 500, 5] (ov [2] (op_move q0) <| ov [500] (op_len_sl Tryd.underlying23 q0) <| ov [] (op_move qi) .nil) fun _ a w h => ?_
        refine wp_block ?_
        obtain ⟨cr24, hl25, hF⟩ := bind_some hF
        refine wp_mono (wp_loopN (R := Bool) (S := Int) (fun s a w => SatL c [.slot 0 (intVP .u32 a_0), .slot 1 (strVP a_1), .slot 2 (slVP S_api_Update.ck a_2), .slot 4 (intVP .i64 a_4), .slot 8 (lpVP (b1 0) 0), .slot 34 (slVP S_api_Update.ck a_2), .slot 35 (intVP .i64 (a_2.length : Int)), .slot 36 (intVP .i64 s), .res (lb (b1 0) 31 [one (intVP .u32 a_3.f_Chain), one (intVP .u32 a_3.f_Here), bytesCk 32 a_3.f_Updater, one (slVP (dC 32) a_3.f_Watchers), one (intVP .u64 a_3.f_Window), bytesCk 32 a_3.f_Committed, one (slVP S_api_Timed.ck a_3.f_Roots), one (slVP S_api_State.ck a_3.f_States), one (boolVP a_3.f_Failed), one (boolVP a_3.f_Cut)])] a w) (fun res e a w => match res with | .next s => e = .exit 0 ∧ SatL c [.slot 0 (intVP .u32 a_0), .slot 1 (strVP a_1), .slot 2 (slVP S_api_Update.ck a_2), .slot 4 (intVP .i64 a_4), .slot 8 (lpVP (b1 0) 0), .res (lb (b1 0) 31 [one (intVP .u32 a_3.f_Chain), one (intVP .u32 a_3.f_Here), bytesCk 32 a_3.f_Updater, one (slVP (dC 32) a_3.f_Watchers), one (intVP .u64 a_3.f_Window), bytesCk 32 a_3.f_Committed, one (slVP S_api_Timed.ck a_3.f_Roots), one (slVP S_api_State.ck a_3.f_States), one (boolVP a_3.f_Failed), one (boolVP a_3.f_Cut)])] a w | .ret r => e = .ret ∧ RetOk Tryd.prog Tryd.f3 c (boolVP r) (fun _ => []) a w) ?_ _ 0 _ _ _ (h.sub [0, 1, 2, 3, 4, 5, 6, 7, 8] (by rfl)) hl25) ?_
        · clear hl25 hF h
          intro x12 a w o h hF
          change law23_RelayerSteps.b1 a_2 x12 = some o at hF
          unfold law23_RelayerSteps.b1 at hF
          change SatL c [.slot 0 (intVP .u32 a_0), .slot 1 (strVP a_1), .slot 2 (slVP S_api_Update.ck a_2), .slot 4 (intVP .i64 a_4), .slot 8 (lpVP (b1 0) 0), .slot 34 (slVP S_api_Update.ck a_2), .slot 35 (intVP .i64 (a_2.length : Int)), .slot 36 (intVP .i64 x12), .res (lb (b1 0) 31 [one (intVP .u32 a_3.f_Chain), one (intVP .u32 a_3.f_Here), bytesCk 32 a_3.f_Updater, one (slVP (dC 32) a_3.f_Watchers), one (intVP .u64 a_3.f_Window), bytesCk 32 a_3.f_Committed, one (slVP S_api_Timed.ck a_3.f_Roots), one (slVP S_api_State.ck a_3.f_States), one (boolVP a_3.f_Failed), one (boolVP a_3.f_Cut)])] a w at h
          refine regS mixed hn hG h [0, 1, 2, 3, 4, 5, 6, 7, 500, 8] (ov [7, 6] (op_bin bin_lss q0 q1) .nil) fun _ a w h => ?_
          refine wp_seq ?_
          refine cnd h hF 8 [0, 1, 2, 3, 4, 5, 6, 7, 9] [0, 1, 2, 3, 4, 5, 6, 7, 9] (fun hb19 hF h => ?_) (fun hb19 hF h => ?_)
          · refine wp_skip ?_
            show Code.wp Tryd.prog _ _ a w
            refine wp_seq ?_
            refine wp_block ?_
            obtain ⟨hv20, hF⟩ := ite_some hF
            refine regS mixed hn hG h [0, 1, 2, 3, 4, 502, 5, 6, 7, 8, 500] (ov [5, 7] (op_indexAddr_sl Tryd.underlying23 Tryd.sizeOf37 S_api_Update.lens q0 q1 hv20) <| ov [500] (op_load_pp [one (intVP .u32 ((a_2.getD x12.toNat default).f_Home)), bytesCk 32 ((a_2.getD x12.toNat default).f_Old), bytesCk 32 ((a_2.getD x12.toNat default).f_New), one (intVP .i64 (((a_2.getD x12.toNat default).f_Sig).f_Index)), one (slVP (dC 32) (((a_2.getD x12.toNat default).f_Sig).f_Parts)), one (slVP (dC 32) (((a_2.getD x12.toNat default).f_Sig).f_Others)), one (slVP (dC 32) (((a_2.getD x12.toNat default).f_Sig).f_Path))] [] Tryd.isAgg37 Tryd.sizeOf37 q0 rfl) <| ob [] (op_alloc Tryd.zeroValue37 z37) <| og [501, 502] [500] [.res 2 100000 (fun v1_ _ => (lb (v1_) 37 [one (intVP .u32 ((a_2.getD x12.toNat default).f_Home)), bytesCk 32 ((a_2.getD x12.toNat default).f_Old), bytesCk 32 ((a_2.getD x12.toNat default).f_New), one (intVP .i64 (((a_2.getD x12.toNat default).f_Sig).f_Index)), one (slVP (dC 32) (((a_2.getD x12.toNat default).f_Sig).f_Parts)), one (slVP (dC 32) (((a_2.getD x12.toNat default).f_Sig).f_Others)), one (slVP (dC 32) (((a_2.getD x12.toNat default).f_Sig).f_Path))]))] (GOk.plain (op_store_w Tryd.sizeOf37 q0 q1 (cells_agg _)) rfl) .nil) fun b21 a w h => ?_
            obtain ⟨r22, hr22, hF⟩ := bind_some hF
            refine regS mixed hn hG h [0, 1, 2, 3, 4, 6, 7, 8, 500, 9] (ov [5] (op_fieldAddr_lbm (p := (b21 2)) (n := 4) 0 65 Tryd.underlying37 rfl Tryd.sizeOf35 (by decide) q0 rfl) <| ov [500, 10] (op_load_lb [one (intVP .u32 ((a_2.getD x12.toNat default).f_Home)), bytesCk 32 ((a_2.getD x12.toNat default).f_Old), bytesCk 32 ((a_2.getD x12.toNat default).f_New)] [one (intVP .i64 (((a_2.getD x12.toNat default).f_Sig).f_Index)), one (slVP (dC 32) (((a_2.getD x12.toNat default).f_Sig).f_Parts)), one (slVP (dC 32) (((a_2.getD x12.toNat default).f_Sig).f_Others)), one (slVP (dC 32) (((a_2.getD x12.toNat default).f_Sig).f_Path))] [] 1 Tryd.isAgg35 Tryd.sizeOf35 q0 rfl rfl rfl) <| oc [500] [] Tryd.call13 (law23_short_ok hr22) ⟨q0, trivial⟩ <| ov [500] (op_un (un_not _) q0) .nil) fun _ a w h => ?_
            refine cnd h hF 8 [] [0, 1, 2, 3, 4, 5, 6, 7, 9] (fun hb23 hF h => ?_) (fun hb23 hF h => ?_)
            · refine regS mixed hn hG h [500] (ov [] (op_assign qb) .nil) fun _ a w h => ?_
              refine wp_ret ?_
              obtain rfl := Option.some.inj hF
              exact ⟨ret_ne, rfl, ret1 h Tryd.results3 (r_tmp 0 rfl) [] [] rfl rfl rfl⟩
            · refine wp_skip ?_
              show Code.wp Tryd.prog _ _ a w
              refine reg mixed hn hG h [0, 1, 2, 3, 4, 5, 6, 500, 8] (ov [7] (op_bin bin_add q0 qi) <| od [500] 7 (op_move q0) .nil) fun _ a w h => ?_
              obtain rfl := Option.some.inj hF
              exact ⟨rfl, h.sub [0, 1, 2, 3, 4, 5, 6, 7, 8] (by rfl)⟩
          · refine wp_exit ?_
            obtain rfl := Option.some.inj hF
            exact ⟨exit_ne _, rfl, h.sub [0, 1, 2, 3, 4, 8] (by rfl)⟩
        · clear hl25
          intro e a w hq
          cases cr24 with
          | ret r26 =>
            obtain ⟨rfl, hq⟩ := hq
            obtain rfl := Option.some.inj hF
            exact ⟨.inl rfl, hq⟩
          | next y28 =>
            obtain ⟨rfl, h⟩ := hq
            change SatL c [.slot 0 (intVP .u32 a_0), .slot 1 (strVP a_1), .slot 2 (slVP S_api_Update.ck a_2), .slot 4 (intVP .i64 a_4), .slot 8 (lpVP (b1 0) 0), .res (lb (b1 0) 31 [one (intVP .u32 a_3.f_Chain), one (intVP .u32 a_3.f_Here), bytesCk 32 a_3.f_Updater, one (slVP (dC 32) a_3.f_Watchers), one (intVP .u64 a_3.f_Window), bytesCk 32 a_3.f_Committed, one (slVP S_api_Timed.ck a_3.f_Roots), one (slVP S_api_State.ck a_3.f_States), one (boolVP a_3.f_Failed), one (boolVP a_3.f_Cut)])] a w at h
            refine inBlock_at ?_
            show Code.wp Tryd.prog _ _ a w
            refine regS mixed hn hG h [0, 1, 2, 3, 4, 502, 5, 500] (ov [0] (op_move q0) <| ov [1] (op_move q0) <| ov [501, 500] (op_build [(0, .tmp 45), (1, .tmp 46)] rfl bu40 z40 ⟨[], [one (intVP .u32 (0 : Int))], [one (strVP [])], [one (intVP .u32 a_0)], _, rfl, rfl, rfl, q0, (cells_one (one_int _ _)), ⟨[one (intVP .u32 a_0)], [one (strVP [])], [], [one (strVP a_1)], _, rfl, rfl, rfl, q1, (cells_one (one_str _)), rfl⟩⟩) <| ob [] (op_alloc Tryd.zeroValue40 z40) <| og [501, 502] [500] [.res 3 100000 (fun v1_ _ => (lb (v1_) 40 [one (intVP .u32 a_0), one (strVP a_1)]))] (GOk.plain (op_store_w Tryd.sizeOf40 q0 q1 (cells_agg _)) rfl) .nil) fun b29 a w h => ?_
            obtain ⟨r30, hr30, hF⟩ := bind_some hF
            refine regS mixed hn hG h [0, 1, 2, 3, 4, 5, 503, 500, 6, 7, 501] (ov [5, 7] (op_load_w 1 Tryd.isAgg40 Tryd.sizeOf40 q0) <| ov [2] (op_move q0) <| ov [4, 6] (op_load_w 1 Tryd.isAgg31 Tryd.sizeOf31 q0) <| ov [3] (op_move q0) <| oc [503, 502, 501, 500] [] Tryd.call14 (relayer_Step_ok hr30) ⟨q0, q1, q2, q3, trivial⟩ <| ov [500] (op_move q0) <| ov [500] (op_extract q0 rfl) <| ov [501] (op_extract q0 rfl) <| ob [] (op_alloc Tryd.zeroValue40 z40) <| og [501, 503] [500] [.res 8 100000 (fun v1_ _ => (lb (v1_) 40 [one (intVP .u32 r30.1.f_Home), one (strVP r30.1.f_Disk)]))] (GOk.plain (op_store_w Tryd.sizeOf40 q0 q1 (cells_agg _)) rfl) <| ov [503] (op_assign q0) .nil) fun b31 a w h => ?_
            obtain ⟨r32, hr32, hF⟩ := bind_some hF
            refine regS mixed hn hG h [0, 1, 2, 4, 5, 6, 7, 501, 500, 8, 9, 10] (ov [1] (op_move q0) <| ov [0] (op_move q0) <| ov [2] (op_move q0) <| ov [4, 8] (op_load_w 1 Tryd.isAgg31 Tryd.sizeOf31 q0) <| ov [3] (op_move q0) <| oc [504, 503, 502, 501, 500] [] Tryd.call15 (ref23_Step_ok hr32) ⟨q0, q1, q2, q3, (opt 4 rfl), trivial⟩ <| ov [500] (op_move q0) <| ov [500] (op_extract q0 rfl) <| ov [501] (op_extract q0 rfl) <| ov [501] (op_assign q0) <| ov [501] (op_assign q0) .nil) fun _ a w h => ?_
            refine wp_seq ?_
            refine wp_seq ?_
            refine wp_cut (fun a w => ∃ (x37 : Bool), law23_RelayerSteps.j2 a_0 r30 r32 x37 = some r ∧ SatL c [.slot 0 (intVP .u32 a_0), .slot 15 (slVP S_api_Update.ck r30.2), .slot 17 (slVP S_api_Update.ck r32.2), .slot 101 (boolVP x37)] a w) ?_ ?_
            · rcases Bool.eq_false_or_eq_true (!decide (r30.1.f_Disk = r32.1)) with hb65 | hb65
              · replace hF := tt_of hb65 hF
                refine reg mixed hn hG h [0, 6, 8, 500] (ov [5] (op_fieldAddr_lbm (p := (b31 8)) (n := 1) 0 1 Tryd.underlying40 rfl Tryd.sizeOf9 (by decide) q0 rfl) <| ov [500, 11] (op_load_lb1 [one (intVP .u32 r30.1.f_Home)] [] 1 Tryd.isAgg9 q0 rfl rfl) <| ov [7] (op_move q0) <| ov [501, 500] (op_bin bin_sneq q0 q1) <| ov [500] (op_move q0) <| oe [500] [] (GOk.off_v (want := false) hb65 rfl rfl rfl rfl) <| oe [501] [] (GOk.off_v (want := false) hb65 rfl rfl rfl rfl) <| oe [502] [] (GOk.off_v (want := false) hb65 rfl rfl rfl rfl) <| oe [503] [] (GOk.off_v (want := false) hb65 rfl rfl rfl rfl) <| ov [504] (op_pick_t hb65 q0 qb) <| ov [500] (op_move q0) <| oe [500] [] (GOk.off_v (want := false) rfl rfl rfl rfl rfl) <| oe [501] [] (GOk.off_v (want := false) rfl rfl rfl rfl rfl) <| oe [502] [] (GOk.off_v (want := false) rfl rfl rfl rfl rfl) <| oe [503] [] (GOk.off_v (want := false) rfl rfl rfl rfl rfl) <| oe [504] [] (GOk.off_v (want := false) rfl rfl rfl rfl rfl) <| ov [505] (op_pick_t rfl q0 qb) <| ov [500] (op_move q0) <| oe [500] [] (GOk.off_v (want := false) rfl rfl rfl rfl rfl) <| oe [501] [] (GOk.off_v (want := false) rfl rfl rfl rfl rfl) <| oe [502] [] (GOk.off_v (want := false) rfl rfl rfl rfl rfl) <| oe [503] [] (GOk.off_v (want := false) rfl rfl rfl rfl rfl) <| oe [504] [] (GOk.off_v (want := false) rfl rfl rfl rfl rfl) <| oe [505] [] (GOk.off_v (want := false) rfl rfl rfl rfl rfl) <| oe [506] [] (GOk.off_v (want := false) rfl rfl rfl rfl rfl) <| oe [507] [] (GOk.off_v (want := false) rfl rfl rfl rfl rfl) <| oe [508] [] (GOk.off_v (want := false) rfl rfl rfl rfl rfl) <| oe [509] [] (GOk.off_v (want := false) rfl rfl rfl rfl rfl) <| ov [510] (op_pick_t rfl q0 qb) <| ov [500] (op_move q0) <| oe [500] [] (GOk.off_v (want := false) rfl rfl rfl rfl rfl) <| oe [501] [] (GOk.off_v (want := false) rfl rfl rfl rfl rfl) <| oe [502] [] (GOk.off_v (want := false) rfl rfl rfl rfl rfl) <| oe [503] [] (GOk.off_v (want := false) rfl rfl rfl rfl rfl) <| oe [504] [] (GOk.off_v (want := false) rfl rfl rfl rfl rfl) <| oe [505] [] (GOk.off_v (want := false) rfl rfl rfl rfl rfl) <| ov [506] (op_pick_t rfl q0 qb) .nil) fun _ a w h => ?_
                exact ⟨true, hF, h.sub [0, 1, 2, 3] (by rfl)⟩
              · replace hF := ff_of hb65 hF
                rcases Bool.eq_false_or_eq_true (!decide (r30.1.f_Home = a_0)) with hb66 | hb66
                · replace hF := tt_of hb66 hF
                  refine reg mixed hn hG h [0, 6, 8, 500] (ov [5] (op_fieldAddr_lbm (p := (b31 8)) (n := 1) 0 1 Tryd.underlying40 rfl Tryd.sizeOf9 (by decide) q0 rfl) <| ov [500, 11] (op_load_lb1 [one (intVP .u32 r30.1.f_Home)] [] 1 Tryd.isAgg9 q0 rfl rfl) <| ov [7] (op_move q0) <| ov [501, 500] (op_bin bin_sneq q0 q1) <| ov [500] (op_move q0) <| oe [500, 5] [] (GOk.on_eq hb65 rfl rfl rfl (op_fieldAddr_lbm (p := (b31 8)) (n := 1) 0 0 Tryd.underlying40 rfl Tryd.sizeOf22 (by decide) q0 rfl)) <| oe [501, 500, 11] [] (GOk.on_eq hb65 rfl rfl rfl (op_load_lb1 [] [one (strVP r30.1.f_Disk)] 1 Tryd.isAgg22 q0 rfl rfl)) <| oe [502, 0] [] (GOk.on_eq hb65 rfl rfl rfl (op_move q0)) <| oe [503, 501, 500] [] (GOk.on_eq hb65 rfl rfl rfl (op_bin bin_neq q0 q1)) <| ov [504, 500] (op_pick_f hb65 q0 q1) <| ov [500] (op_move q0) <| oe [500] [] (GOk.off_v (want := false) hb66 rfl rfl rfl rfl) <| oe [501] [] (GOk.off_v (want := false) hb66 rfl rfl rfl rfl) <| oe [502] [] (GOk.off_v (want := false) hb66 rfl rfl rfl rfl) <| oe [503] [] (GOk.off_v (want := false) hb66 rfl rfl rfl rfl) <| oe [504] [] (GOk.off_v (want := false) hb66 rfl rfl rfl rfl) <| ov [505] (op_pick_t hb66 q0 qb) <| ov [500] (op_move q0) <| oe [500] [] (GOk.off_v (want := false) rfl rfl rfl rfl rfl) <| oe [501] [] (GOk.off_v (want := false) rfl rfl rfl rfl rfl) <| oe [502] [] (GOk.off_v (want := false) rfl rfl rfl rfl rfl) <| oe [503] [] (GOk.off_v (want := false) rfl rfl rfl rfl rfl) <| oe [504] [] (GOk.off_v (want := false) rfl rfl rfl rfl rfl) <| oe [505] [] (GOk.off_v (want := false) rfl rfl rfl rfl rfl) <| oe [506] [] (GOk.off_v (want := false) rfl rfl rfl rfl rfl) <| oe [507] [] (GOk.off_v (want := false) rfl rfl rfl rfl rfl) <| oe [508] [] (GOk.off_v (want := false) rfl rfl rfl rfl rfl) <| oe [509] [] (GOk.off_v (want := false) rfl rfl rfl rfl rfl) <| ov [510] (op_pick_t rfl q0 qb) <| ov [500] (op_move q0) <| oe [500] [] (GOk.off_v (want := false) rfl rfl rfl rfl rfl) <| oe [501] [] (GOk.off_v (want := false) rfl rfl rfl rfl rfl) <| oe [502] [] (GOk.off_v (want := false) rfl rfl rfl rfl rfl) <| oe [503] [] (GOk.off_v (want := false) rfl rfl rfl rfl rfl) <| oe [504] [] (GOk.off_v (want := false) rfl rfl rfl rfl rfl) <| oe [505] [] (GOk.off_v (want := false) rfl rfl rfl rfl rfl) <| ov [506] (op_pick_t rfl q0 qb) .nil) fun _ a w h => ?_
                  exact ⟨true, hF, h.sub [0, 1, 2, 3] (by rfl)⟩
                · replace hF := ff_of hb66 hF
                  rcases Bool.eq_false_or_eq_true (!decide ((r30.2.length : Int) = (r32.2.length : Int))) with hb67 | hb67
                  · replace hF := tt_of hb67 hF
                    refine reg mixed hn hG h [0, 6, 8, 500] (ov [5] (op_fieldAddr_lbm (p := (b31 8)) (n := 1) 0 1 Tryd.underlying40 rfl Tryd.sizeOf9 (by decide) q0 rfl) <| ov [500, 11] (op_load_lb1 [one (intVP .u32 r30.1.f_Home)] [] 1 Tryd.isAgg9 q0 rfl rfl) <| ov [7] (op_move q0) <| ov [501, 500] (op_bin bin_sneq q0 q1) <| ov [500] (op_move q0) <| oe [500, 5] [] (GOk.on_eq hb65 rfl rfl rfl (op_fieldAddr_lbm (p := (b31 8)) (n := 1) 0 0 Tryd.underlying40 rfl Tryd.sizeOf22 (by decide) q0 rfl)) <| oe [501, 500, 11] [] (GOk.on_eq hb65 rfl rfl rfl (op_load_lb1 [] [one (strVP r30.1.f_Disk)] 1 Tryd.isAgg22 q0 rfl rfl)) <| oe [502, 0] [] (GOk.on_eq hb65 rfl rfl rfl (op_move q0)) <| oe [503, 501, 500] [] (GOk.on_eq hb65 rfl rfl rfl (op_bin bin_neq q0 q1)) <| ov [504, 500] (op_pick_f hb65 q0 q1) <| ov [500] (op_move q0) <| oe [500, 6] [] (GOk.on_eq hb66 rfl rfl rfl (op_move q0)) <| oe [501, 500] [] (GOk.on_eq hb66 rfl rfl rfl (op_len_sl Tryd.underlying23 q0)) <| oe [502, 8] [] (GOk.on_eq hb66 rfl rfl rfl (op_move q0)) <| oe [503, 500] [] (GOk.on_eq hb66 rfl rfl rfl (op_len_sl Tryd.underlying23 q0)) <| oe [504, 502, 500] [] (GOk.on_eq hb66 rfl rfl rfl (op_bin bin_neq q0 q1)) <| ov [505, 500] (op_pick_f hb66 q0 q1) <| ov [500] (op_move q0) <| oe [500] [] (GOk.off_v (want := false) hb67 rfl rfl rfl rfl) <| oe [501] [] (GOk.off_v (want := false) hb67 rfl rfl rfl rfl) <| oe [502] [] (GOk.off_v (want := false) hb67 rfl rfl rfl rfl) <| oe [503] [] (GOk.off_v (want := false) hb67 rfl rfl rfl rfl) <| oe [504] [] (GOk.off_v (want := false) hb67 rfl rfl rfl rfl) <| oe [505] [] (GOk.off_v (want := false) hb67 rfl rfl rfl rfl) <| oe [506] [] (GOk.off_v (want := false) hb67 rfl rfl rfl rfl) <| oe [507] [] (GOk.off_v (want := false) hb67 rfl rfl rfl rfl) <| oe [508] [] (GOk.off_v (want := false) hb67 rfl rfl rfl rfl) <| oe [509] [] (GOk.off_v (want := false) hb67 rfl rfl rfl rfl) <| ov [510] (op_pick_t hb67 q0 qb) <| ov [500] (op_move q0) <| oe [500] [] (GOk.off_v (want := false) rfl rfl rfl rfl rfl) <| oe [501] [] (GOk.off_v (want := false) rfl rfl rfl rfl rfl) <| oe [502] [] (GOk.off_v (want := false) rfl rfl rfl rfl rfl) <| oe [503] [] (GOk.off_v (want := false) rfl rfl rfl rfl rfl) <| oe [504] [] (GOk.off_v (want := false) rfl rfl rfl rfl rfl) <| oe [505] [] (GOk.off_v (want := false) rfl rfl rfl rfl rfl) <| ov [506] (op_pick_t rfl q0 qb) .nil) fun _ a w h => ?_
                    exact ⟨true, hF, h.sub [0, 1, 2, 3] (by rfl)⟩
                  · replace hF := ff_of hb67 hF
                    obtain ⟨r33, hr33, hF⟩ := bind_some hF
                    obtain ⟨r34, hr34, hF⟩ := bind_some hF
                    rcases Bool.eq_false_or_eq_true (!decide (r33 = r34)) with hb68 | hb68
                    · replace hF := tt_of hb68 hF
                      refine reg mixed hn hG h [0, 6, 8, 500] (ov [5] (op_fieldAddr_lbm (p := (b31 8)) (n := 1) 0 1 Tryd.underlying40 rfl Tryd.sizeOf9 (by decide) q0 rfl) <| ov [500, 11] (op_load_lb1 [one (intVP .u32 r30.1.f_Home)] [] 1 Tryd.isAgg9 q0 rfl rfl) <| ov [7] (op_move q0) <| ov [501, 500] (op_bin bin_sneq q0 q1) <| ov [500] (op_move q0) <| oe [500, 5] [] (GOk.on_eq hb65 rfl rfl rfl (op_fieldAddr_lbm (p := (b31 8)) (n := 1) 0 0 Tryd.underlying40 rfl Tryd.sizeOf22 (by decide) q0 rfl)) <| oe [501, 500, 11] [] (GOk.on_eq hb65 rfl rfl rfl (op_load_lb1 [] [one (strVP r30.1.f_Disk)] 1 Tryd.isAgg22 q0 rfl rfl)) <| oe [502, 0] [] (GOk.on_eq hb65 rfl rfl rfl (op_move q0)) <| oe [503, 501, 500] [] (GOk.on_eq hb65 rfl rfl rfl (op_bin bin_neq q0 q1)) <| ov [504, 500] (op_pick_f hb65 q0 q1) <| ov [500] (op_move q0) <| oe [500, 6] [] (GOk.on_eq hb66 rfl rfl rfl (op_move q0)) <| oe [501, 500] [] (GOk.on_eq hb66 rfl rfl rfl (op_len_sl Tryd.underlying23 q0)) <| oe [502, 8] [] (GOk.on_eq hb66 rfl rfl rfl (op_move q0)) <| oe [503, 500] [] (GOk.on_eq hb66 rfl rfl rfl (op_len_sl Tryd.underlying23 q0)) <| oe [504, 502, 500] [] (GOk.on_eq hb66 rfl rfl rfl (op_bin bin_neq q0 q1)) <| ov [505, 500] (op_pick_f hb66 q0 q1) <| ov [500] (op_move q0) <| oe [500, 4, 10] [] (GOk.on_eq hb67 rfl rfl rfl (op_load_w 1 Tryd.isAgg40 Tryd.sizeOf40 q0)) <| oe [501, 2] [] (GOk.on_eq hb67 rfl rfl rfl (op_move q0)) <| oe [502, 3, 9] [] (GOk.on_eq hb67 rfl rfl rfl (op_load_w 1 Tryd.isAgg31 Tryd.sizeOf31 q0)) <| oe [503, 502, 501, 500] [] (GOk.on_eq hb67 rfl rfl rfl (op_call Tryd.call16 (relayer_Fits_ok hr33) ⟨q0, q1, q2, trivial⟩)) <| oe [504, 1] [] (GOk.on_eq hb67 rfl rfl rfl (op_move q0)) <| oe [505, 0] [] (GOk.on_eq hb67 rfl rfl rfl (op_move q0)) <| oe [506, 2] [] (GOk.on_eq hb67 rfl rfl rfl (op_move q0)) <| oe [507, 3, 9] [] (GOk.on_eq hb67 rfl rfl rfl (op_load_w 1 Tryd.isAgg31 Tryd.sizeOf31 q0)) <| oe [508, 503, 502, 501, 500] [] (GOk.on_eq hb67 rfl rfl rfl (op_call Tryd.call17 (ref23_Fits_ok hr34) ⟨q0, q1, q2, q3, trivial⟩)) <| oe [509, 505, 500] [] (GOk.on_eq hb67 rfl rfl rfl (op_bin bin_neq q0 q1)) <| ov [510, 500] (op_pick_f hb67 q0 q1) <| ov [500] (op_move q0) <| oe [500] [] (GOk.off_v (want := false) hb68 rfl rfl rfl rfl) <| oe [501] [] (GOk.off_v (want := false) hb68 rfl rfl rfl rfl) <| oe [502] [] (GOk.off_v (want := false) hb68 rfl rfl rfl rfl) <| oe [503] [] (GOk.off_v (want := false) hb68 rfl rfl rfl rfl) <| oe [504] [] (GOk.off_v (want := false) hb68 rfl rfl rfl rfl) <| oe [505] [] (GOk.off_v (want := false) hb68 rfl rfl rfl rfl) <| ov [506] (op_pick_t hb68 q0 qb) .nil) fun _ a w h => ?_
                      exact ⟨true, hF, h.sub [0, 1, 2, 3] (by rfl)⟩
                    · replace hF := ff_of hb68 hF
                      obtain ⟨r35, hr35, hF⟩ := bind_some hF
                      obtain ⟨r36, hr36, hF⟩ := bind_some hF
                      refine reg mixed hn hG h [0, 6, 8, 500] (ov [5] (op_fieldAddr_lbm (p := (b31 8)) (n := 1) 0 1 Tryd.underlying40 rfl Tryd.sizeOf9 (by decide) q0 rfl) <| ov [500, 11] (op_load_lb1 [one (intVP .u32 r30.1.f_Home)] [] 1 Tryd.isAgg9 q0 rfl rfl) <| ov [7] (op_move q0) <| ov [501, 500] (op_bin bin_sneq q0 q1) <| ov [500] (op_move q0) <| oe [500, 5] [] (GOk.on_eq hb65 rfl rfl rfl (op_fieldAddr_lbm (p := (b31 8)) (n := 1) 0 0 Tryd.underlying40 rfl Tryd.sizeOf22 (by decide) q0 rfl)) <| oe [501, 500, 11] [] (GOk.on_eq hb65 rfl rfl rfl (op_load_lb1 [] [one (strVP r30.1.f_Disk)] 1 Tryd.isAgg22 q0 rfl rfl)) <| oe [502, 0] [] (GOk.on_eq hb65 rfl rfl rfl (op_move q0)) <| oe [503, 501, 500] [] (GOk.on_eq hb65 rfl rfl rfl (op_bin bin_neq q0 q1)) <| ov [504, 500] (op_pick_f hb65 q0 q1) <| ov [500] (op_move q0) <| oe [500, 6] [] (GOk.on_eq hb66 rfl rfl rfl (op_move q0)) <| oe [501, 500] [] (GOk.on_eq hb66 rfl rfl rfl (op_len_sl Tryd.underlying23 q0)) <| oe [502, 8] [] (GOk.on_eq hb66 rfl rfl rfl (op_move q0)) <| oe [503, 500] [] (GOk.on_eq hb66 rfl rfl rfl (op_len_sl Tryd.underlying23 q0)) <| oe [504, 502, 500] [] (GOk.on_eq hb66 rfl rfl rfl (op_bin bin_neq q0 q1)) <| ov [505, 500] (op_pick_f hb66 q0 q1) <| ov [500] (op_move q0) <| oe [500, 4, 10] [] (GOk.on_eq hb67 rfl rfl rfl (op_load_w 1 Tryd.isAgg40 Tryd.sizeOf40 q0)) <| oe [501, 2] [] (GOk.on_eq hb67 rfl rfl rfl (op_move q0)) <| oe [502, 3, 9] [] (GOk.on_eq hb67 rfl rfl rfl (op_load_w 1 Tryd.isAgg31 Tryd.sizeOf31 q0)) <| oe [503, 502, 501, 500] [] (GOk.on_eq hb67 rfl rfl rfl (op_call Tryd.call16 (relayer_Fits_ok hr33) ⟨q0, q1, q2, trivial⟩)) <| oe [504, 1] [] (GOk.on_eq hb67 rfl rfl rfl (op_move q0)) <| oe [505, 0] [] (GOk.on_eq hb67 rfl rfl rfl (op_move q0)) <| oe [506, 2] [] (GOk.on_eq hb67 rfl rfl rfl (op_move q0)) <| oe [507, 3, 9] [] (GOk.on_eq hb67 rfl rfl rfl (op_load_w 1 Tryd.isAgg31 Tryd.sizeOf31 q0)) <| oe [508, 503, 502, 501, 500] [] (GOk.on_eq hb67 rfl rfl rfl (op_call Tryd.call17 (ref23_Fits_ok hr34) ⟨q0, q1, q2, q3, trivial⟩)) <| oe [509, 505, 500] [] (GOk.on_eq hb67 rfl rfl rfl (op_bin bin_neq q0 q1)) <| ov [510, 500] (op_pick_f hb67 q0 q1) <| ov [500] (op_move q0) <| oe [500, 4, 10] [] (GOk.on_eq hb68 rfl rfl rfl (op_load_w 1 Tryd.isAgg40 Tryd.sizeOf40 q0)) <| oe [501, 500] [] (GOk.on_eq hb68 rfl rfl rfl (op_call Tryd.call18 (relayer_Note_ok hr35) ⟨q0, trivial⟩)) <| oe [502, 1] [] (GOk.on_eq hb68 rfl rfl rfl (op_move q0)) <| oe [503, 0] [] (GOk.on_eq hb68 rfl rfl rfl (op_move q0)) <| oe [504, 501, 500] [] (GOk.on_eq hb68 rfl rfl rfl (op_call Tryd.call19 (notes_Read_ok hr36) ⟨q0, qi, q1, trivial⟩)) <| oe [505, 503, 500] [] (GOk.on_eq hb68 rfl rfl rfl (op_bin (bin_stneq (d := 2) Tryd.underlying48 (by kernel_rfl) Tryd.eqGuardType48 (.cons (L := [one (intVP .u8 r35.f_Kind)]) (M := [one (intVP .u8 r36.f_Kind)]) (by decide) rfl ((eqc_int Tryd.underlying5 Tryd.isAgg5).deeper (by decide)) rfl rfl (.cons (L := [one (intVP .u32 r35.f_Home)]) (M := [one (intVP .u32 r36.f_Home)]) (by decide) rfl ((eqc_int Tryd.underlying22 Tryd.isAgg22).deeper (by decide)) rfl rfl (.cons (L := [one (intVP .u64 r35.f_Next)]) (M := [one (intVP .u64 r36.f_Next)]) (by decide) rfl ((eqc_int Tryd.underlying27 Tryd.isAgg27).deeper (by decide)) rfl rfl (.cons (L := [bytesCk 32 r35.f_Old]) (M := [bytesCk 32 r36.f_Old]) (by decide) rfl (eqc_bytes Tryd.underlying25 Tryd.underlying5 Tryd.type5 Tryd.sizeOf5 Tryd.isAgg5 Tryd.isAgg25 Tryd.sizeOf25) rfl rfl (.cons (L := [bytesCk 32 r35.f_New]) (M := [bytesCk 32 r36.f_New]) (by decide) rfl (eqc_bytes Tryd.underlying25 Tryd.underlying5 Tryd.type5 Tryd.sizeOf5 Tryd.isAgg5 Tryd.isAgg25 Tryd.sizeOf25) rfl rfl (.cons (L := [one (intVP .u64 r35.f_Sent)]) (M := [one (intVP .u64 r36.f_Sent)]) (by decide) rfl ((eqc_int Tryd.underlying27 Tryd.isAgg27).deeper (by decide)) rfl rfl .nil))))))) q0 q1)) <| ov [506, 500] (op_pick_f hb68 q0 q1) .nil) fun _ a w h => ?_
                      exact ⟨!((decide (r35.f_Kind = r36.f_Kind)) && ((decide (r35.f_Home = r36.f_Home)) && ((decide (r35.f_Next = r36.f_Next)) && ((decide (r35.f_Old = r36.f_Old)) && ((decide (r35.f_New = r36.f_New)) && ((decide (r35.f_Sent = r36.f_Sent)) && true)))))), hF, h.sub [0, 1, 2, 3] (by rfl)⟩
            · clear h hF
              rintro a w ⟨x37, hF, h⟩
              unfold law23_RelayerSteps.j2 at hF
              show Code.wp Tryd.prog _ _ a w
              refine cnd h hF 3 [] [0, 1, 2] (fun hb38 hF h => ?_) (fun hb38 hF h => ?_)
              · refine regS mixed hn hG h [500] (ov [] (op_assign qb) .nil) fun _ a w h => ?_
                refine wp_ret ?_
                obtain rfl := Option.some.inj hF
                exact ⟨.inl rfl, ret1 h Tryd.results3 (r_tmp 0 rfl) [] [] rfl rfl rfl⟩
              · refine wp_skip ?_
                show Code.wp Tryd.prog _ _ a w
                refine wp_seq ?_
                refine regS mixed hn hG h [0, 1, 2, 501, 500] (ov [1] (op_move q0) <| ov [500] (op_len_sl Tryd.underlying23 q0) <| ov [] (op_move qi) .nil) fun _ a w h => ?_
                refine wp_block ?_
                obtain ⟨cr56, hl57, hF⟩ := bind_some hF
                refine wp_mono (wp_loopN (R := Bool) (S := Int) (fun s a w => SatL c [.slot 0 (intVP .u32 a_0), .slot 15 (slVP S_api_Update.ck r30.2), .slot 17 (slVP S_api_Update.ck r32.2), .slot 103 (intVP .i64 (r30.2.length : Int)), .slot 104 (intVP .i64 s)] a w) (fun res e a w => match res with | .next s => e = .exit 2 ∧ SatL c [.slot 0 (intVP .u32 a_0)] a w | .ret r => e = .ret ∧ RetOk Tryd.prog Tryd.f3 c (boolVP r) (fun _ => []) a w) ?_ _ 0 _ _ _ (h.sub [0, 1, 2, 3, 4] (by rfl)) hl57) ?_
                · clear hl57 hF h
                  intro x44 a w o h hF
                  change law23_RelayerSteps.b2 r30 r32 x44 = some o at hF
                  unfold law23_RelayerSteps.b2 at hF
                  change SatL c [.slot 0 (intVP .u32 a_0), .slot 15 (slVP S_api_Update.ck r30.2), .slot 17 (slVP S_api_Update.ck r32.2), .slot 103 (intVP .i64 (r30.2.length : Int)), .slot 104 (intVP .i64 x44)] a w at h
                  refine regS mixed hn hG h [0, 1, 2, 3, 4, 500] (ov [4, 3] (op_bin bin_lss q0 q1) .nil) fun _ a w h => ?_
                  refine wp_seq ?_
                  refine cnd h hF 5 [0, 1, 2, 3, 4] [0, 1, 2, 3, 4] (fun hb51 hF h => ?_) (fun hb51 hF h => ?_)
                  · refine wp_skip ?_
                    show Code.wp Tryd.prog _ _ a w
                    refine wp_seq ?_
                    refine wp_block ?_
                    refine regS mixed hn hG h [0, 1, 2, 500, 3, 4] (ov [4] (op_move q0) <| ov [500] (op_assign q0) .nil) fun _ a w h => ?_
                    obtain ⟨hv52, hF⟩ := ite_some hF
                    obtain ⟨hv53, hF⟩ := ite_some hF
                    obtain ⟨r54, hr54, hF⟩ := bind_some hF
                    refine regS mixed hn hG h [0, 1, 2, 4, 5, 500] (ov [1] (op_move q0) <| ov [3] (op_move q0) <| ov [501, 500] (op_indexAddr_sl Tryd.underlying23 Tryd.sizeOf37 S_api_Update.lens q0 q1 hv52) <| ov [500] (op_load_pp [one (intVP .u32 ((r30.2.getD x44.toNat default).f_Home)), bytesCk 32 ((r30.2.getD x44.toNat default).f_Old), bytesCk 32 ((r30.2.getD x44.toNat default).f_New), one (intVP .i64 (((r30.2.getD x44.toNat default).f_Sig).f_Index)), one (slVP (dC 32) (((r30.2.getD x44.toNat default).f_Sig).f_Parts)), one (slVP (dC 32) (((r30.2.getD x44.toNat default).f_Sig).f_Others)), one (slVP (dC 32) (((r30.2.getD x44.toNat default).f_Sig).f_Path))] [] Tryd.isAgg37 Tryd.sizeOf37 q0 rfl) <| ov [2] (op_move q0) <| ov [3] (op_move q0) <| ov [501, 500] (op_indexAddr_sl Tryd.underlying23 Tryd.sizeOf37 S_api_Update.lens q0 q1 hv53) <| ov [500] (op_load_pp [one (intVP .u32 ((r32.2.getD x44.toNat default).f_Home)), bytesCk 32 ((r32.2.getD x44.toNat default).f_Old), bytesCk 32 ((r32.2.getD x44.toNat default).f_New), one (intVP .i64 (((r32.2.getD x44.toNat default).f_Sig).f_Index)), one (slVP (dC 32) (((r32.2.getD x44.toNat default).f_Sig).f_Parts)), one (slVP (dC 32) (((r32.2.getD x44.toNat default).f_Sig).f_Others)), one (slVP (dC 32) (((r32.2.getD x44.toNat default).f_Sig).f_Path))] [] Tryd.isAgg37 Tryd.sizeOf37 q0 rfl) <| oc [504, 500] [] Tryd.call20 (ref10_Same_ok hr54) ⟨q0, q1, trivial⟩ <| ov [500] (op_un (un_not _) q0) .nil) fun _ a w h => ?_
                    refine cnd h hF 5 [] [0, 1, 2, 3, 4] (fun hb55 hF h => ?_) (fun hb55 hF h => ?_)
                    · refine regS mixed hn hG h [500] (ov [] (op_assign qb) .nil) fun _ a w h => ?_
                      refine wp_ret ?_
                      obtain rfl := Option.some.inj hF
                      exact ⟨ret_ne, rfl, ret1 h Tryd.results3 (r_tmp 0 rfl) [] [] rfl rfl rfl⟩
                    · refine wp_skip ?_
                      show Code.wp Tryd.prog _ _ a w
                      refine reg mixed hn hG h [0, 1, 2, 3, 500] (ov [4] (op_bin bin_add q0 qi) <| od [500] 4 (op_move q0) .nil) fun _ a w h => ?_
                      obtain rfl := Option.some.inj hF
                      exact ⟨rfl, h.sub [0, 1, 2, 3, 4] (by rfl)⟩
                  · refine wp_exit ?_
                    obtain rfl := Option.some.inj hF
                    exact ⟨exit_ne _, rfl, h.sub [0] (by rfl)⟩
                · clear hl57
                  intro e a w hq
                  cases cr56 with
                  | ret r58 =>
                    obtain ⟨rfl, hq⟩ := hq
                    obtain rfl := Option.some.inj hF
                    exact ⟨.inl rfl, hq⟩
                  | next y60 =>
                    obtain ⟨rfl, h⟩ := hq
                    change SatL c [.slot 0 (intVP .u32 a_0)] a w at h
                    refine inBlock_at ?_
                    show Code.wp Tryd.prog _ _ a w
                    refine wp_seq ?_
                    obtain ⟨r61, hr61, hF⟩ := bind_some hF
                    refine wp_cut (fun a w => ∃ (x63 : Bool), law23_RelayerSteps.j3 x63 = some r ∧ SatL c [.slot 10 (boolVP x63)] a w) ?_ ?_
                    · rcases Bool.eq_false_or_eq_true (decide (r61.f_Disk = [])) with hb64 | hb64
                      · replace hF := tt_of hb64 hF
                        obtain ⟨r62, hr62, hF⟩ := bind_some hF
                        refine reg mixed hn hG h [500] (ov [0] (op_move q0) <| oc [500] [] Tryd.call21 (relayer_New_ok hr61) ⟨q0, trivial⟩ <| ov [500] (op_field1 [one (intVP .u32 r61.f_Home)] [] Tryd.underlying40 rfl Tryd.isAgg9 q0 rfl) <| ov [500] (op_bin bin_seql q0 (opc (sc _ (by decide)))) <| ov [500] (op_move q0) <| oe [500, 0] [] (GOk.on_eq hb64 rfl rfl rfl (op_move q0)) <| oe [501, 500] [] (GOk.on_eq hb64 rfl rfl rfl (op_call Tryd.call21 (relayer_New_ok hr62) ⟨q0, trivial⟩)) <| oe [502, 500] [] (GOk.on_eq hb64 rfl rfl rfl (op_field1 [] [one (strVP r62.f_Disk)] Tryd.underlying40 rfl Tryd.isAgg22 q0 rfl)) <| oe [503, 0] [] (GOk.on_eq hb64 rfl rfl rfl (op_move q0)) <| oe [504, 501, 500] [] (GOk.on_eq hb64 rfl rfl rfl (op_bin bin_eql q0 q1)) <| ov [505, 500] (op_pick_t hb64 q0 q1) <| ov [500] (op_assign q0) .nil) fun _ a w h => ?_
                        exact ⟨decide (r62.f_Home = a_0), hF, h.sub [0] (by rfl)⟩
                      · replace hF := ff_of hb64 hF
                        refine reg mixed hn hG h [500] (ov [0] (op_move q0) <| oc [500] [] Tryd.call21 (relayer_New_ok hr61) ⟨q0, trivial⟩ <| ov [500] (op_field1 [one (intVP .u32 r61.f_Home)] [] Tryd.underlying40 rfl Tryd.isAgg9 q0 rfl) <| ov [500] (op_bin bin_seql q0 (opc (sc _ (by decide)))) <| ov [500] (op_move q0) <| oe [500] [] (GOk.off_v (want := true) hb64 rfl rfl rfl rfl) <| oe [501] [] (GOk.off_v (want := true) hb64 rfl rfl rfl rfl) <| oe [502] [] (GOk.off_v (want := true) hb64 rfl rfl rfl rfl) <| oe [503] [] (GOk.off_v (want := true) hb64 rfl rfl rfl rfl) <| oe [504] [] (GOk.off_v (want := true) hb64 rfl rfl rfl rfl) <| ov [505] (op_pick_f hb64 q0 qb) <| ov [500] (op_assign q0) .nil) fun _ a w h => ?_
                        exact ⟨false, hF, h.sub [0] (by rfl)⟩
                    · clear h hF
                      rintro a w ⟨x63, hF, h⟩
                      unfold law23_RelayerSteps.j3 at hF
                      show Code.wp Tryd.prog _ _ a w
                      refine wp_ret ?_
                      obtain rfl := Option.some.inj hF
                      exact ⟨.inl rfl, ret1 h Tryd.results3 (r_tmp 0 rfl) [] [] rfl rfl rfl⟩
end Go.Proofs.YtnjkofmmpfehcaaDoorR
