/- The functions' Lean twins and contracts, printed by this session's own program: part 3. -/
import Derived.Test.YtnjkofmmpfehcaaDoorRG2
namespace Go.Proofs.YtnjkofmmpfehcaaDoorR
open Go Go.RowKit Go.Proofs
set_option maxRecDepth 100000
set_option maxHeartbeats 4000000
set_option linter.unusedVariables false
def ref01_End.b1 (x11 : List (UInt8)) : Option (Flow (List UInt8) (List (UInt8))) := (if (!decide (((x11.length : Int).tmod 64) = (56 : Int))) = true then (if x11.length + [u8of 0].length ≤ mxl ∧ (x11.length + [u8of 0].length) * 1 ≤ 140737488355328 then some (.cont (x11 ++ [u8of 0])) else none) else some (.brk x11))
def ref01_End.b2 (a_2 : Int) (x29 : Int) (x30 : List (UInt8)) : Option (Flow (List UInt8) (Int × (List (UInt8)))) := (if (decide (x29 < (8 : Int))) = true then (if x30.length + [u8of (IntKind.wrap .u8 (shr .u64 (IntKind.wrap .u64 (8 * a_2)) (IntKind.wrap .u64 (IntKind.wrap .i64 (56 - (IntKind.wrap .i64 (8 * x29)))))))].length ≤ mxl ∧ (x30.length + [u8of (IntKind.wrap .u8 (shr .u64 (IntKind.wrap .u64 (8 * a_2)) (IntKind.wrap .u64 (IntKind.wrap .i64 (56 - (IntKind.wrap .i64 (8 * x29)))))))].length) * 1 ≤ 140737488355328 then some (.cont (IntKind.wrap .i64 (x29 + 1), x30 ++ [u8of (IntKind.wrap .u8 (shr .u64 (IntKind.wrap .u64 (8 * a_2)) (IntKind.wrap .u64 (IntKind.wrap .i64 (56 - (IntKind.wrap .i64 (8 * x29)))))))])) else none) else some (.brk (x29, x30)))
def ref01_End.b3 (r47 : (List Int) × (List (UInt8))) (x51 : Int) (x52 : List UInt8) : Option (Flow (List UInt8) (Int × (List UInt8))) := (if (decide (x51 < (32 : Int))) = true then (if (0 : Int) ≤ IntKind.wrap .i64 (x51.tdiv 4) ∧ IntKind.wrap .i64 (x51.tdiv 4) < 8 then (if (0 : Int) ≤ x51 ∧ x51 < 32 then some (.cont (IntKind.wrap .i64 (x51 + 1), x52.set x51.toNat (u8of (IntKind.wrap .u8 (shr .u32 (r47.1.getD (IntKind.wrap .i64 (x51.tdiv 4)).toNat 0) (IntKind.wrap .u64 (IntKind.wrap .i64 (24 - (IntKind.wrap .i64 (8 * (x51.tmod 4))))))))))) else none) else none) else some (.brk (x51, x52)))
def ref01_End (a_0 : List Int) (a_1 : List (UInt8)) (a_2 : Int) : Option (List UInt8) := (if ([] : List UInt8).length + a_1.length ≤ mxl ∧ (([] : List UInt8).length + a_1.length) * 1 ≤ 140737488355328 then (if (([] : List UInt8) ++ a_1).length + [u8of 128].length ≤ mxl ∧ ((([] : List UInt8) ++ a_1).length + [u8of 128].length) * 1 ≤ 140737488355328 then ((loopN (fun s : (List (UInt8)) => ref01_End.b1 s) 100000 ((([] : List UInt8) ++ a_1) ++ [u8of 128])).bind fun cr => match cr with | .ret r => some r | .next y25 => ((loopN (fun s : Int × (List (UInt8)) => ref01_End.b2 a_2 s.1 s.2) ((8 - 0 : Int).toNat + 2) (0, y25)).bind fun cr => match cr with | .ret r => some r | .next (y45, y46) => ((ref01_After a_0 y46).bind fun r47 => ((loopN (fun s : Int × (List UInt8) => ref01_End.b3 r47 s.1 s.2) ((32 - 0 : Int).toNat + 2) (0, (List.replicate 32 0))).bind fun cr => match cr with | .ret r => some r | .next (y65, y66) => some y66)))) else none) else none)
theorem ref01_End_ok {a_0 : List Int} {a_1 : List (UInt8)} {a_2 : Int} {r : (List UInt8)} (hF : ref01_End a_0 a_1 a_2 = some r) : CallOk Tryd.prog KG 196 [(aggVP [intsCk .u32 8 a_0]), (slVP bC a_1), (intVP .u64 a_2)] [] (fun _ => []) (aggVP [bytesCk 32 r]) := by
  refine CallOk.intro 65 Tryd.func196 rfl Tryd.ntmps196 (Nat.le_of_ble_eq_true rfl) ?_
  intro c a w hG hn h
  unfold ref01_End at hF
  change SatL c [.slot 0 (aggVP [intsCk .u32 8 a_0]), .slot 1 (slVP bC a_1), .slot 2 (intVP .u64 a_2)] a w at h
  refine regS mixed hn hG h [1, 2, 503, 501, 502, 500] (ob [0] (op_box q0 (cells_agg _)) <| ob [] (op_alloc Tryd.zeroValue25 z25) .nil) fun b1 a w h => ?_
  refine regS mixed hn hG h [0, 1, 2, 3, 500, 4, 5] (ov [] (op_assign (opc (ec _))) .nil) fun _ a w h => ?_
  obtain ⟨q3, h⟩ : ∃ q3 : Value, SatL c [.slot 1 (slVP bC a_1), .slot 2 (intVP .u64 a_2), .slot 3 (lpVP (b1 0) 0), .slot 6 (lpVP (b1 1) 0), .slot 7 (eqVP q3), .res (lb (b1 0) 280 [intsCk .u32 8 a_0]), .res (lb (b1 1) 25 [bytesCk 32 (List.replicate 32 0)]), .res (acc q3 5 1 bC ([] : List UInt8))] a w := ⟨.slice none 0 0, (h.nilacc 5 1 bC).sub [0, 1, 2, 3, 4, 5, 6, 7] (by rfl)⟩
  obtain ⟨hv4, hF⟩ := ite_some hF
  refine regS mixed hn hG h [1, 2, 3, 500, 5, 6, 501] (ov [4] (op_move q0) <| ov [0] (op_move q0) <| og [501, 500] [7] [.slot 14 2 100000 (fun v1_ _ => (eqVP v1_)), .res 2 100000 (fun v1_ _ => (acc (v1_) 5 1 bC (([] : List UInt8) ++ a_1)))] (GOk.plain (op_append (i := Tryd.t5) Tryd.underlying259 Tryd.type5 rfl lens_bC (by decide) rfl q0 q1 hv4) rfl) <| og [501] [4] [.slot 7 2 100000 (fun v1_ _ => (eqVP v1_))] (fun {β} => (GOk.drop _ (GOk.plain (op_assign (V := (eqVP (β 2))) q0) rfl))) .nil) fun b5 a w h => ?_
  obtain ⟨hv6, hF⟩ := ite_some hF
  refine regS mixed hn hG h [0, 1, 2, 500, 4, 5, 501] (ov [3] (op_move q0) <| ov [] (op_lit (xs := [.const (.int .u8 128)]) (ys := [u8of 128]) _ rfl Tryd.underlying259 Tryd.sizeOf5 Tryd.zeroValue5 rfl rfl (by decide) (by decide) ⟨⟨_, qi, (cells_u8 _)⟩, trivial⟩ lens_bC) <| og [501, 500] [6] [.slot 17 2 100000 (fun v1_ _ => (eqVP v1_)), .res 2 100000 (fun v1_ _ => (acc (v1_) 5 1 bC ((([] : List UInt8) ++ a_1) ++ [u8of 128])))] (GOk.plain (op_append (i := Tryd.t5) Tryd.underlying259 Tryd.type5 rfl lens_bC (by decide) rfl q0 q1 hv6) rfl) <| og [501] [3] [.slot 7 2 100000 (fun v1_ _ => (eqVP v1_))] (fun {β} => (GOk.drop _ (GOk.plain (op_assign (V := (eqVP (β 2))) q0) rfl))) .nil) fun b7 a w h => ?_
  refine wp_seq ?_
  refine wp_block ?_
  obtain ⟨cr21, hl22, hF⟩ := bind_some hF
  refine wp_mono (wp_loopN (R := (List UInt8)) (S := (List (UInt8))) (fun s a w => ∃ q12 : Value, SatL c [.slot 2 (intVP .u64 a_2), .slot 3 (lpVP (b1 0) 0), .slot 6 (lpVP (b1 1) 0), .slot 7 (eqVP q12), .res (lb (b1 0) 280 [intsCk .u32 8 a_0]), .res (lb (b1 1) 25 [bytesCk 32 (List.replicate 32 0)]), .res (acc q12 5 1 bC s)] a w) (fun res e a w => match res with | .next s => e = .exit 0 ∧ ∃ q12 : Value, SatL c [.slot 2 (intVP .u64 a_2), .slot 3 (lpVP (b1 0) 0), .slot 6 (lpVP (b1 1) 0), .slot 7 (eqVP q12), .res (lb (b1 0) 280 [intsCk .u32 8 a_0]), .res (lb (b1 1) 25 [bytesCk 32 (List.replicate 32 0)]), .res (acc q12 5 1 bC s)] a w | .ret r => e = .ret ∧ RetOk Tryd.prog Tryd.f196 c (aggVP [bytesCk 32 r]) (fun _ => []) a w) ?_ _ ((([] : List UInt8) ++ a_1) ++ [u8of 128]) _ _ _ ⟨(b7 2), (h.sub [0, 1, 2, 3, 4, 5, 6] (by rfl))⟩ hl22) ?_
  · clear hl22 hF h
    intro x11 a w o h hF
    obtain ⟨q12, h⟩ := h
    change ref01_End.b1 x11 = some o at hF
    unfold ref01_End.b1 at hF
    change SatL c [.slot 2 (intVP .u64 a_2), .slot 3 (lpVP (b1 0) 0), .slot 6 (lpVP (b1 1) 0), .slot 7 (eqVP q12), .res (lb (b1 0) 280 [intsCk .u32 8 a_0]), .res (lb (b1 1) 25 [bytesCk 32 (List.replicate 32 0)]), .res (acc q12 5 1 bC x11)] a w at h
    refine wp_seq ?_
    refine regS mixed hn hG h [0, 1, 2, 3, 500, 4, 5, 6] (ov [3] (op_move q0) <| ov [500, 6] (op_len_sl Tryd.underlying259 (opacc 0 1 rfl rfl)) <| ov [500] (op_bin (bin_rem (by decide)) q0 qi) <| ov [500] (op_bin bin_neq q0 qi) .nil) fun _ a w h => ?_
    refine cnd h hF 4 [0, 1, 2, 3, 5, 6, 7] [0, 1, 2, 3, 5, 6, 7] (fun hb18 hF h => ?_) (fun hb18 hF h => ?_)
    · refine wp_skip ?_
      show Code.wp Tryd.prog _ _ a w
      refine wp_block ?_
      obtain ⟨hv19, hF⟩ := ite_some hF
      refine reg mixed hn hG h [0, 1, 2, 500, 4, 5, 501] (ov [3] (op_move q0) <| ov [] (op_lit (xs := [.const (.int .u8 0)]) (ys := [u8of 0]) _ rfl Tryd.underlying259 Tryd.sizeOf5 Tryd.zeroValue5 rfl rfl (by decide) (by decide) ⟨⟨_, qi, (cells_u8 _)⟩, trivial⟩ lens_bC) <| og [501, 500] [6] [.slot 24 2 100000 (fun v1_ _ => (eqVP v1_)), .res 2 100000 (fun v1_ _ => (acc (v1_) 5 1 bC (x11 ++ [u8of 0])))] (GOk.plain (op_append (i := Tryd.t5) Tryd.underlying259 Tryd.type5 rfl lens_bC (by decide) rfl q0 q1 hv19) rfl) <| og [501] [3] [.slot 7 2 100000 (fun v1_ _ => (eqVP v1_))] (fun {β} => (GOk.drop _ (GOk.plain (op_assign (V := (eqVP (β 2))) q0) rfl))) .nil) fun b20 a w h => ?_
      obtain rfl := Option.some.inj hF
      exact ⟨rfl, (b20 2), h.sub [0, 1, 2, 3, 4, 5, 6] (by rfl)⟩
    · refine wp_exit ?_
      obtain rfl := Option.some.inj hF
      exact ⟨exit_ne _, rfl, q12, h.sub [0, 1, 2, 3, 4, 5, 6] (by rfl)⟩
  · clear hl22
    intro e a w hq
    cases cr21 with
    | ret r23 =>
      obtain ⟨rfl, hq⟩ := hq
      obtain rfl := Option.some.inj hF
      exact ⟨.inl rfl, hq⟩
    | next y25 =>
      obtain ⟨rfl, q12, h⟩ := hq
      change SatL c [.slot 2 (intVP .u64 a_2), .slot 3 (lpVP (b1 0) 0), .slot 6 (lpVP (b1 1) 0), .slot 7 (eqVP q12), .res (lb (b1 0) 280 [intsCk .u32 8 a_0]), .res (lb (b1 1) 25 [bytesCk 32 (List.replicate 32 0)]), .res (acc q12 5 1 bC y25)] a w at h
      refine inBlock_at ?_
      show Code.wp Tryd.prog _ _ a w
      refine regS mixed hn hG h [1, 2, 3, 500, 4, 5, 6] (ov [0] (op_move q0) <| ov [500] (op_bin bin_mul qi q0) <| ov [500] (op_assign q0) .nil) fun _ a w h => ?_
      refine wp_seq ?_
      refine regS mixed hn hG h [0, 1, 2, 3, 500, 4, 5, 6] (ov [] (op_assign qi) .nil) fun _ a w h => ?_
      refine wp_block ?_
      obtain ⟨cr41, hl42, hF⟩ := bind_some hF
      refine wp_mono (wp_loopN (R := (List UInt8)) (S := Int × (List (UInt8))) (fun s a w => ∃ q31 : Value, SatL c [.slot 3 (lpVP (b1 0) 0), .slot 6 (lpVP (b1 1) 0), .slot 7 (eqVP q31), .slot 8 (intVP .u64 (IntKind.wrap .u64 (8 * a_2))), .slot 9 (intVP .i64 s.1), .res (lb (b1 0) 280 [intsCk .u32 8 a_0]), .res (lb (b1 1) 25 [bytesCk 32 (List.replicate 32 0)]), .res (acc q31 5 1 bC s.2)] a w) (fun res e a w => match res with | .next s => e = .exit 2 ∧ ∃ q31 : Value, SatL c [.slot 3 (lpVP (b1 0) 0), .slot 6 (lpVP (b1 1) 0), .slot 7 (eqVP q31), .res (lb (b1 0) 280 [intsCk .u32 8 a_0]), .res (lb (b1 1) 25 [bytesCk 32 (List.replicate 32 0)]), .res (acc q31 5 1 bC s.2)] a w | .ret r => e = .ret ∧ RetOk Tryd.prog Tryd.f196 c (aggVP [bytesCk 32 r]) (fun _ => []) a w) ?_ _ (0, y25) _ _ _ ⟨q12, (h.sub [0, 1, 2, 3, 4, 5, 6, 7] (by rfl))⟩ hl42) ?_
      · clear hl42 hF h
        intro s a w o h hF
        obtain ⟨x29, x30⟩ := s
        obtain ⟨q31, h⟩ := h
        change ref01_End.b2 a_2 x29 x30 = some o at hF
        unfold ref01_End.b2 at hF
        change SatL c [.slot 3 (lpVP (b1 0) 0), .slot 6 (lpVP (b1 1) 0), .slot 7 (eqVP q31), .slot 8 (intVP .u64 (IntKind.wrap .u64 (8 * a_2))), .slot 9 (intVP .i64 x29), .res (lb (b1 0) 280 [intsCk .u32 8 a_0]), .res (lb (b1 1) 25 [bytesCk 32 (List.replicate 32 0)]), .res (acc q31 5 1 bC x30)] a w at h
        refine wp_seq ?_
        refine regS mixed hn hG h [0, 1, 2, 3, 4, 500, 5, 6, 7] (ov [4] (op_move q0) <| ov [500] (op_bin bin_lss q0 qi) .nil) fun _ a w h => ?_
        refine cnd h hF 5 [0, 1, 2, 3, 4, 6, 7, 8] [0, 1, 2, 3, 4, 6, 7, 8] (fun hb38 hF h => ?_) (fun hb38 hF h => ?_)
        · refine wp_skip ?_
          show Code.wp Tryd.prog _ _ a w
          refine wp_seq ?_
          refine wp_block ?_
          obtain ⟨hv39, hF⟩ := ite_some hF
          refine reg mixed hn hG h [0, 1, 500, 3, 4, 5, 6, 501] (ov [2] (op_move q0) <| ov [3] (op_move q0) <| ov [4] (op_move q0) <| ov [500] (op_bin bin_mul qi q0) <| ov [500] (op_bin bin_sub qi q0) <| ov [500] (op_convert_int Tryd.underlying3 Tryd.underlying295 q0) <| ov [504, 500] (op_bin (bin_shru rfl) q0 q1) <| ov [500] (op_convert_int Tryd.underlying27 Tryd.underlying5 q0) <| ov [500] (op_lit (xs := [.tmp 38]) (ys := [u8of (IntKind.wrap .u8 (shr .u64 (IntKind.wrap .u64 (8 * a_2)) (IntKind.wrap .u64 (IntKind.wrap .i64 (56 - (IntKind.wrap .i64 (8 * x29)))))))]) _ rfl Tryd.underlying259 Tryd.sizeOf5 Tryd.zeroValue5 rfl rfl (by decide) (by decide) ⟨⟨_, q0, (cells_u8 _)⟩, trivial⟩ lens_bC) <| og [508, 500] [7] [.slot 40 9 100000 (fun v1_ _ => (eqVP v1_)), .res 9 100000 (fun v1_ _ => (acc (v1_) 5 1 bC (x30 ++ [u8of (IntKind.wrap .u8 (shr .u64 (IntKind.wrap .u64 (8 * a_2)) (IntKind.wrap .u64 (IntKind.wrap .i64 (56 - (IntKind.wrap .i64 (8 * x29)))))))])))] (GOk.plain (op_append (i := Tryd.t5) Tryd.underlying259 Tryd.type5 rfl lens_bC (by decide) rfl q0 q1 hv39) rfl) <| og [501] [2] [.slot 7 9 100000 (fun v1_ _ => (eqVP v1_))] (fun {β} => (GOk.drop _ (GOk.plain (op_assign (V := (eqVP (β 9))) q0) rfl))) .nil) fun b40 a w h => ?_
          show Code.wp Tryd.prog _ _ a w
          refine reg mixed hn hG h [0, 1, 2, 3, 500, 5, 6, 7] (ov [4] (op_move q0) <| ov [500] (op_bin bin_add q0 qi) <| od [500] 4 (op_assign q0) .nil) fun _ a w h => ?_
          obtain rfl := Option.some.inj hF
          exact ⟨rfl, (b40 9), h.sub [0, 1, 2, 3, 4, 5, 6, 7] (by rfl)⟩
        · refine wp_exit ?_
          obtain rfl := Option.some.inj hF
          exact ⟨exit_ne _, rfl, q31, h.sub [0, 1, 2, 5, 6, 7] (by rfl)⟩
      · clear hl42
        intro e a w hq
        cases cr41 with
        | ret r43 =>
          obtain ⟨rfl, hq⟩ := hq
          obtain rfl := Option.some.inj hF
          exact ⟨.inl rfl, hq⟩
        | next s44 =>
          obtain ⟨y45, y46⟩ := s44
          obtain ⟨rfl, q31, h⟩ := hq
          change SatL c [.slot 3 (lpVP (b1 0) 0), .slot 6 (lpVP (b1 1) 0), .slot 7 (eqVP q31), .res (lb (b1 0) 280 [intsCk .u32 8 a_0]), .res (lb (b1 1) 25 [bytesCk 32 (List.replicate 32 0)]), .res (acc q31 5 1 bC y46)] a w at h
          refine inBlock_at ?_
          show Code.wp Tryd.prog _ _ a w
          obtain ⟨r47, hr47, hF⟩ := bind_some hF
          refine regS mixed hn hG h [0, 1, 500, 4] (ov [0, 3] (op_load_w 1 Tryd.isAgg280 Tryd.sizeOf280 q0) <| ov [2] (op_move q0) <| oc [501, 500, 5] [] Tryd.call194 (ref01_After_ok hr47) ⟨q0, (opacc 1 2 rfl rfl), trivial⟩ <| ov [500] (op_move q0) <| ov [500] (op_extract q0 rfl) <| ov [501] (op_extract q0 rfl) <| ou [0, 501] 3 (op_store_w Tryd.sizeOf280 q0 q1 (cells_agg _)) .nil) fun _ a w h => ?_
          refine regS mixed hn hG h [0, 1, 501, 2, 3, 500] (ob [] (op_alloc Tryd.zeroValue25 z25) .nil) fun b48 a w h => ?_
          refine wp_seq ?_
          refine regS mixed hn hG h [0, 1, 2, 500, 3, 4, 5] (ov [] (op_assign qi) .nil) fun _ a w h => ?_
          refine wp_block ?_
          obtain ⟨cr61, hl62, hF⟩ := bind_some hF
          refine wp_mono (wp_loopN (R := (List UInt8)) (S := Int × (List UInt8)) (fun s a w => SatL c [.slot 3 (lpVP (b1 0) 0), .slot 6 (lpVP (b1 1) 0), .slot 10 (lpVP (b48 0) 0), .slot 11 (intVP .i64 s.1), .res (lb (b1 0) 280 [intsCk .u32 8 r47.1]), .res (lb (b1 1) 25 [bytesCk 32 (List.replicate 32 0)]), .res (lb (b48 0) 25 [bytesCk 32 s.2])] a w) (fun res e a w => match res with | .next s => e = .exit 4 ∧ SatL c [.slot 6 (lpVP (b1 1) 0), .slot 10 (lpVP (b48 0) 0), .res (lb (b1 1) 25 [bytesCk 32 (List.replicate 32 0)]), .res (lb (b48 0) 25 [bytesCk 32 s.2])] a w | .ret r => e = .ret ∧ RetOk Tryd.prog Tryd.f196 c (aggVP [bytesCk 32 r]) (fun _ => []) a w) ?_ _ (0, (List.replicate 32 0)) _ _ _ (h.sub [0, 1, 2, 3, 4, 5, 6] (by rfl)) hl62) ?_
          · clear hl62 hF h
            intro s a w o h hF
            obtain ⟨x51, x52⟩ := s
            change ref01_End.b3 r47 x51 x52 = some o at hF
            unfold ref01_End.b3 at hF
            change SatL c [.slot 3 (lpVP (b1 0) 0), .slot 6 (lpVP (b1 1) 0), .slot 10 (lpVP (b48 0) 0), .slot 11 (intVP .i64 x51), .res (lb (b1 0) 280 [intsCk .u32 8 r47.1]), .res (lb (b1 1) 25 [bytesCk 32 (List.replicate 32 0)]), .res (lb (b48 0) 25 [bytesCk 32 x52])] a w at h
            refine wp_seq ?_
            refine regS mixed hn hG h [0, 1, 2, 3, 500, 4, 5, 6] (ov [3] (op_move q0) <| ov [500] (op_bin bin_lss q0 qi) .nil) fun _ a w h => ?_
            refine cnd h hF 4 [0, 1, 2, 3, 5, 6, 7] [0, 1, 2, 3, 5, 6, 7] (fun hb58 hF h => ?_) (fun hb58 hF h => ?_)
            · refine wp_skip ?_
              show Code.wp Tryd.prog _ _ a w
              refine wp_seq ?_
              refine wp_block ?_
              obtain ⟨hv59, hF⟩ := ite_some hF
              obtain ⟨hv60, hF⟩ := ite_some hF
              refine reg mixed hn hG h [0, 1, 2, 3, 4, 5, 500] (ov [3] (op_move q0) <| ov [3] (op_move q0) <| ov [500] (op_bin (bin_quo (by decide)) q0 qi) <| ov [0, 500] (op_indexAddr_lb Tryd.underlying280 Tryd.sizeOf22 q0 q1 hv59) <| ov [500, 4] (op_load_lbI (i := IntKind.wrap .i64 (x51.tdiv 4)) [] [] 1 Tryd.isAgg22 q0 rfl rfl hv59) <| ov [3] (op_move q0) <| ov [500] (op_bin (bin_rem (by decide)) q0 qi) <| ov [500] (op_bin bin_mul qi q0) <| ov [500] (op_bin bin_sub qi q0) <| ov [500] (op_convert_int Tryd.underlying3 Tryd.underlying295 q0) <| ov [505, 500] (op_bin (bin_shru rfl) q0 q1) <| ov [500] (op_convert_int Tryd.underlying22 Tryd.underlying5 q0) <| ov [2, 511] (op_indexAddr_lb Tryd.underlying25 Tryd.sizeOf5 q0 q1 hv60) <| ou [500, 501] 6 (op_store_lbB (i := x51) [] [] Tryd.sizeOf5 q0 q1 rfl hv60) .nil) fun _ a w h => ?_
              show Code.wp Tryd.prog _ _ a w
              refine reg mixed hn hG h [0, 1, 2, 500, 4, 5, 6] (ov [3] (op_move q0) <| ov [500] (op_bin bin_add q0 qi) <| od [500] 3 (op_assign q0) .nil) fun _ a w h => ?_
              obtain rfl := Option.some.inj hF
              exact ⟨rfl, h.sub [0, 1, 2, 3, 4, 5, 6] (by rfl)⟩
            · refine wp_exit ?_
              obtain rfl := Option.some.inj hF
              exact ⟨exit_ne _, rfl, h.sub [1, 2, 5, 6] (by rfl)⟩
          · clear hl62
            intro e a w hq
            cases cr61 with
            | ret r63 =>
              obtain ⟨rfl, hq⟩ := hq
              obtain rfl := Option.some.inj hF
              exact ⟨.inl rfl, hq⟩
            | next s64 =>
              obtain ⟨y65, y66⟩ := s64
              obtain ⟨rfl, h⟩ := hq
              change SatL c [.slot 6 (lpVP (b1 1) 0), .slot 10 (lpVP (b48 0) 0), .res (lb (b1 1) 25 [bytesCk 32 (List.replicate 32 0)]), .res (lb (b48 0) 25 [bytesCk 32 y66])] a w at h
              refine inBlock_at ?_
              show Code.wp Tryd.prog _ _ a w
              refine regS mixed hn hG h [0, 500] (ov [1, 3] (op_load_w 1 Tryd.isAgg25 Tryd.sizeOf25 q0) <| ou [0, 500] 2 (op_store_w Tryd.sizeOf25 q0 q1 (cells_agg _)) .nil) fun _ a w h => ?_
              refine wp_ret ?_
              obtain rfl := Option.some.inj hF
              exact ⟨.inl rfl, ret1 h Tryd.results196 (r_cell 0 1 rfl rfl Tryd.isAgg25 Tryd.sizeOf25 rfl) [] [] rfl rfl rfl⟩

def ref01_Sum (a_0 : List UInt8) : Option (List UInt8) := ((ref01_First).bind fun r2 => ((ref01_After r2 a_0).bind fun r3 => ((ref01_End r3.1 r3.2 (IntKind.wrap .u64 (a_0.length : Int))).bind fun r5 => some r5)))
theorem ref01_Sum_ok {a_0 : List UInt8} {r : (List UInt8)} (hF : ref01_Sum a_0 = some r) : CallOk Tryd.prog KG 145 [(strVP a_0)] [] (fun _ => []) (aggVP [bytesCk 32 r]) := by
  refine CallOk.intro 18 Tryd.func145 rfl Tryd.ntmps145 (Nat.le_of_ble_eq_true rfl) ?_
  intro c a w hG hn h
  unfold ref01_Sum at hF
  change SatL c [.slot 0 (strVP a_0)] a w at h
  refine regS mixed hn hG h [0, 501, 500] (ob [] (op_alloc Tryd.zeroValue25 z25) .nil) fun b1 a w h => ?_
  obtain ⟨r2, hr2, hF⟩ := bind_some hF
  obtain ⟨r3, hr3, hF⟩ := bind_some hF
  refine regS mixed hn hG h [0, 1, 503, 500, 2, 501] (oc [] [] Tryd.call195 (ref01_First_ok hr2) trivial <| ov [0] (op_move q0) <| ov [500] (op_conv_str_sl Tryd.underlying9 Tryd.underlying259 Tryd.underlying5 q0) <| oc [502, 500] [] Tryd.call194 (ref01_After_ok hr3) ⟨q0, q1, trivial⟩ <| ov [500] (op_move q0) <| ov [500] (op_extract q0 rfl) <| ov [501] (op_extract q0 rfl) <| ob [] (op_alloc Tryd.zeroValue280 z280) <| og [501, 503] [500] [.res 7 100000 (fun v1_ _ => (lb (v1_) 280 [intsCk .u32 8 r3.1]))] (GOk.plain (op_store_w Tryd.sizeOf280 q0 q1 (cells_agg _)) rfl) <| ov [503] (op_assign q0) .nil) fun b4 a w h => ?_
  obtain ⟨r5, hr5, hF⟩ := bind_some hF
  refine regS mixed hn hG h [1, 500] (ov [2, 5] (op_load_w 1 Tryd.isAgg280 Tryd.sizeOf280 q0) <| ov [3] (op_move q0) <| ov [0] (op_move q0) <| ov [500] (op_len_str Tryd.underlying9 q0) <| ov [500] (op_convert_int Tryd.underlying3 Tryd.underlying27 q0) <| oc [504, 503, 500] [] Tryd.call196 (ref01_End_ok hr5) ⟨q0, q1, q2, trivial⟩ <| ou [1, 500] 4 (op_store_w Tryd.sizeOf25 q0 q1 (cells_agg _)) .nil) fun _ a w h => ?_
  refine wp_ret ?_
  obtain rfl := Option.some.inj hF
  exact ⟨.inl rfl, ret1 h Tryd.results145 (r_cell 0 1 rfl rfl Tryd.isAgg25 Tryd.sizeOf25 rfl) [] [] rfl rfl rfl⟩

def ref04_Log_Note.n (a_1 : List UInt8) (a_2 : List UInt8) : Option (Option O_RLog) := some none
def ref04_Log_Note.b1 (s_0 : O_RLog) (a_1 : List UInt8) (a_2 : List UInt8) (x8 : Int) : Option (Flow (Option O_RLog) Int) := (if (decide (x8 < (((lkp a_1 s_0.f_Digests).getD []).length : Int))) = true then (if (0 : Int) ≤ x8 ∧ x8 < ((lkp a_1 s_0.f_Digests).getD []).length then (if (decide ((((lkp a_1 s_0.f_Digests).getD []).getD x8.toNat default) = a_2)) = true then some (.ret (some s_0)) else some (.cont (IntKind.wrap .i64 (x8 + 1)))) else none) else some (.brk x8))
def ref04_Log_Note.s (s_0 : O_RLog) (a_1 : List UInt8) (a_2 : List UInt8) : Option (Option O_RLog) := ((loopN (fun s : Int => ref04_Log_Note.b1 s_0 a_1 a_2 s) (((((lkp a_1 s_0.f_Digests).getD []).length : Int) - 0 : Int).toNat + 2) 0).bind fun cr => match cr with | .ret r => some r | .next y20 => (if ((lkp a_1 s_0.f_Digests).getD ([] : List (List UInt8))).length + [a_2].length ≤ mxl ∧ (((lkp a_1 s_0.f_Digests).getD ([] : List (List UInt8))).length + [a_2].length) * 16 ≤ 140737488355328 then (if s_0.f_Inputs.length + [a_2].length ≤ mxl ∧ (s_0.f_Inputs.length + [a_2].length) * 16 ≤ 140737488355328 then some (some ⟨s_0.f_Inputs ++ [a_2], upd a_1 (((lkp a_1 s_0.f_Digests).getD ([] : List (List UInt8))) ++ [a_2]) (ens a_1 ([] : List (List UInt8)) s_0.f_Digests)⟩) else none) else none))
def ref04_Log_Note (L_0 : Option O_RLog) (a_1 : List UInt8) (a_2 : List UInt8) : Option (Option O_RLog) := match L_0 with | none => ref04_Log_Note.n a_1 a_2 | some s_0 => ref04_Log_Note.s s_0 a_1 a_2
theorem ref04_Log_Note_ok {p_0 : Value} {L_0 : Option O_RLog} {a_1 : List UInt8} {a_2 : List UInt8} {r : (Option O_RLog)} (hF : ref04_Log_Note L_0 a_1 a_2 = some r) : CallOk Tryd.prog KG 146 [(eqVP p_0), (aggVP [bytesCk 32 a_1]), (strVP a_2)] [(RLog_e p_0 L_0)] (fun _ => [RLog_e p_0 r]) (tupVP []) := by
  refine CallOk.intro 46 Tryd.func146 rfl Tryd.ntmps146 (Nat.le_of_ble_eq_true rfl) ?_
  intro c a w hG hn h
  unfold ref04_Log_Note at hF
  change SatL c [.slot 0 (eqVP p_0), .slot 1 (aggVP [bytesCk 32 a_1]), .slot 2 (strVP a_2), .res (RLog_e p_0 L_0)] a w at h
  obtain ⟨h_0_0, h⟩ := h.ex 3 rfl
  obtain ⟨h_0_1, h⟩ := h.ex 3 rfl
  change SatL c [.slot 0 (eqVP p_0), .slot 1 (aggVP [bytesCk 32 a_1]), .slot 2 (strVP a_2), .res (RLog_o p_0 h_0_0 h_0_1 L_0)] a w at h
  cases L_0 with
  | none =>
    change ref04_Log_Note.n a_1 a_2 = some r at hF
    unfold ref04_Log_Note.n at hF
    obtain rfl := h.isp 3 rfl (fun _ _ _ q => q.2)
    replace h := h.slotc 0 rfl (V' := ptrVP (.pointer none) false) (fun _ _ h => ⟨h, rfl⟩)
    change SatL c [.slot 0 (ptrVP (.pointer none) false), .slot 1 (aggVP [bytesCk 32 a_1]), .slot 2 (strVP a_2), .res (RLog_o (.pointer none) h_0_0 h_0_1 none)] a w at h
    refine regS mixed hn hG h [0, 2, 501, 3, 500] (ob [1] (op_box q0 (cells_agg _)) .nil) fun b1 a w h => ?_
    refine wp_seq ?_
    refine regS mixed hn hG h [0, 1, 2, 500, 3, 4] (ov [0] (op_move q0) <| ov [500] (op_bin (bin_pnil Tryd.underlying55) q0 (opc (ec _))) .nil) fun _ a w h => ?_
    refine cond_L h 3 rfl (fun hb2 => ?_) (fun hb2 => ?_)
    · skip
      replace h := h.sel [4]
      refine wp_ret ?_
      replace h := h.conv 0 rfl RLog_packo
      change SatL c [.res (RLog_e (.pointer none) none)] a w at h
      obtain rfl := Option.some.inj hF
      exact ⟨.inl rfl, retn h (rs := []) (Vs := []) Tryd.results146 (by decide) trivial [0] [(RLog_e (.pointer none) none)] rfl rfl rfl⟩
    · cases hb2
  | some s_0 =>
    change ref04_Log_Note.s s_0 a_1 a_2 = some r at hF
    unfold ref04_Log_Note.s at hF
    have hp := h.isp 3 rfl (fun Φ f w q => RLog_lp Φ f w q)
    replace h := h.slotc 0 rfl (V' := lpVP p_0 0) (fun _ _ h => eq_lp h hp)
    replace h := h.sep (R := lb p_0 153 [one (eqVP h_0_0), one (eqVP h_0_1)]) (S := (RP.sep (acc h_0_0 9 1 strC s_0.f_Inputs) (mapR h_0_1 arrK (fun l => l.length = 32) (fun u y => acc u 9 1 strC y) s_0.f_Digests))) 3 rfl
    replace h := h.sep (R := acc h_0_0 9 1 strC s_0.f_Inputs) (S := (mapR h_0_1 arrK (fun l => l.length = 32) (fun u y => acc u 9 1 strC y) s_0.f_Digests)) 4 rfl
    replace h := h.sub [0, 1, 2, 3, 4, 5] (by rfl)
    change SatL c [.slot 0 (lpVP p_0 0), .slot 1 (aggVP [bytesCk 32 a_1]), .slot 2 (strVP a_2), .res (lb p_0 153 [one (eqVP h_0_0), one (eqVP h_0_1)]), .res (acc h_0_0 9 1 strC s_0.f_Inputs), .res (mapR h_0_1 arrK (fun l => l.length = 32) (fun u y => acc u 9 1 strC y) s_0.f_Digests)] a w at h
    refine regS mixed hn hG h [0, 2, 501, 3, 4, 5, 500] (ob [1] (op_box q0 (cells_agg _)) .nil) fun b3 a w h => ?_
    refine wp_seq ?_
    refine regS mixed hn hG h [0, 1, 2, 500, 3, 4, 5, 6] (ov [0] (op_move q0) <| ov [500] (op_bin (bin_pnil Tryd.underlying55) (lp_ptr q0) (opc (ec _))) .nil) fun _ a w h => ?_
    refine cond_L h 3 rfl (fun hb4 => ?_) (fun hb4 => ?_)
    · cases hb4
    · skip
      replace h := h.sel [0, 1, 2, 4, 5, 6, 7]
      refine wp_skip ?_
      show Code.wp Tryd.prog _ _ a w
      refine wp_seq ?_
      refine regS mixed hn hG h [0, 1, 2, 502, 501, 500, 3, 4, 5, 6] (ov [0] (op_move q0) <| ov [500] (op_nilCheck q0 (ptr_lp _ _)) <| ov [500] (op_fieldAddr_lbm (p := p_0) (n := 1) 0 1 Tryd.underlying153 rfl Tryd.sizeOf150 (by decide) q0 rfl) <| ov [500, 3] (op_load_lb1 [one (eqVP h_0_0)] [] 1 Tryd.isAgg150 q0 rfl rfl) <| ov [2, 6] (op_load_w 1 Tryd.isAgg25 Tryd.sizeOf25 q0) <| ov [501, 500, 5] (op_lookup (slVP strC) [] 2 Tryd.underlying150 (keyArr Tryd.underlying25 Tryd.underlying5 Tryd.type5 Tryd.sizeOf5 Tryd.isAgg5) Tryd.zeroValue151 q0 q1 hk_arr rfl res_id (fun _ _ _ _ _ h => acc_sl h) (fun _ => ⟨by decide, .inl ⟨rfl, rfl⟩⟩)) <| ov [500] (op_len_sl Tryd.underlying151 q0) <| ov [] (op_move qi) .nil) fun _ a w h => ?_
      refine wp_block ?_
      obtain ⟨cr16, hl17, hF⟩ := bind_some hF
      refine wp_mono (wp_loopN (R := (Option O_RLog)) (S := Int) (fun s a w => SatL c [.slot 0 (lpVP p_0 0), .slot 2 (strVP a_2), .slot 4 (lpVP (b3 0) 0), .slot 15 (slVP strC ((lkp a_1 s_0.f_Digests).getD [])), .slot 16 (intVP .i64 (((lkp a_1 s_0.f_Digests).getD []).length : Int)), .slot 17 (intVP .i64 s), .res (lb p_0 153 [one (eqVP h_0_0), one (eqVP h_0_1)]), .res (acc h_0_0 9 1 strC s_0.f_Inputs), .res (mapR h_0_1 arrK (fun l => l.length = 32) (fun u y => acc u 9 1 strC y) s_0.f_Digests), .res (lb (b3 0) 25 [bytesCk 32 a_1])] a w) (fun res e a w => match res with | .next s => e = .exit 0 ∧ SatL c [.slot 0 (lpVP p_0 0), .slot 2 (strVP a_2), .slot 4 (lpVP (b3 0) 0), .res (lb p_0 153 [one (eqVP h_0_0), one (eqVP h_0_1)]), .res (acc h_0_0 9 1 strC s_0.f_Inputs), .res (mapR h_0_1 arrK (fun l => l.length = 32) (fun u y => acc u 9 1 strC y) s_0.f_Digests), .res (lb (b3 0) 25 [bytesCk 32 a_1])] a w | .ret r => e = .ret ∧ RetOk Tryd.prog Tryd.f146 c (tupVP []) (fun _ => [RLog_e p_0 r]) a w) ?_ _ 0 _ _ _ (h.sub [0, 1, 2, 3, 4, 5, 6, 7, 8, 9] (by rfl)) hl17) ?_
      · clear hl17 hF h
        intro x8 a w o h hF
        change ref04_Log_Note.b1 s_0 a_1 a_2 x8 = some o at hF
        unfold ref04_Log_Note.b1 at hF
        change SatL c [.slot 0 (lpVP p_0 0), .slot 2 (strVP a_2), .slot 4 (lpVP (b3 0) 0), .slot 15 (slVP strC ((lkp a_1 s_0.f_Digests).getD [])), .slot 16 (intVP .i64 (((lkp a_1 s_0.f_Digests).getD []).length : Int)), .slot 17 (intVP .i64 x8), .res (lb p_0 153 [one (eqVP h_0_0), one (eqVP h_0_1)]), .res (acc h_0_0 9 1 strC s_0.f_Inputs), .res (mapR h_0_1 arrK (fun l => l.length = 32) (fun u y => acc u 9 1 strC y) s_0.f_Digests), .res (lb (b3 0) 25 [bytesCk 32 a_1])] a w at h
        refine regS mixed hn hG h [0, 1, 2, 3, 4, 5, 500, 6, 7, 8, 9] (ov [5, 4] (op_bin bin_lss q0 q1) .nil) fun _ a w h => ?_
        refine wp_seq ?_
        refine cnd h hF 6 [0, 1, 2, 3, 4, 5, 7, 8, 9, 10] [0, 1, 2, 3, 4, 5, 7, 8, 9, 10] (fun hb13 hF h => ?_) (fun hb13 hF h => ?_)
        · refine wp_skip ?_
          show Code.wp Tryd.prog _ _ a w
          refine wp_seq ?_
          refine wp_block ?_
          obtain ⟨hv14, hF⟩ := ite_some hF
          refine regS mixed hn hG h [0, 1, 2, 500, 3, 4, 5, 6, 7, 8, 9] (ov [3, 5] (op_indexAddr_sl Tryd.underlying151 Tryd.sizeOf9 lens_strC q0 q1 hv14) <| ov [500] (op_load_pp1 [] Tryd.isAgg9 q0) <| ov [500] (op_assign q0) .nil) fun _ a w h => ?_
          refine regS mixed hn hG h [0, 1, 2, 4, 5, 6, 500, 7, 8, 9, 10] (ov [3] (op_move q0) <| ov [1] (op_move q0) <| ov [501, 500] (op_bin bin_seql q0 q1) .nil) fun _ a w h => ?_
          refine cnd h hF 6 [7, 8, 9] [0, 1, 2, 3, 4, 5, 7, 8, 9, 10] (fun hb15 hF h => ?_) (fun hb15 hF h => ?_)
          · refine wp_ret ?_
            replace h := h.unsep 1 2 rfl rfl (by decide)
            replace h := h.unsep 0 1 rfl rfl (by decide)
            replace h := h.conv 0 rfl (R' := RLog_e p_0 (some s_0)) (RLog_packo (v0 := h_0_0) (v1 := h_0_1) (o := (some s_0)))
            replace h := h.sub [0] (by rfl)
            change SatL c [.res (RLog_e p_0 (some s_0))] a w at h
            obtain rfl := Option.some.inj hF
            exact ⟨ret_ne, rfl, retn h (rs := []) (Vs := []) Tryd.results146 (by decide) trivial [0] [(RLog_e p_0 (some s_0))] rfl rfl rfl⟩
          · refine wp_skip ?_
            show Code.wp Tryd.prog _ _ a w
            refine reg mixed hn hG h [0, 1, 2, 3, 4, 500, 6, 7, 8, 9] (ov [5] (op_bin bin_add q0 qi) <| od [500] 5 (op_move q0) .nil) fun _ a w h => ?_
            obtain rfl := Option.some.inj hF
            exact ⟨rfl, h.sub [0, 1, 2, 3, 4, 5, 6, 7, 8, 9] (by rfl)⟩
        · refine wp_exit ?_
          obtain rfl := Option.some.inj hF
          exact ⟨exit_ne _, rfl, h.sub [0, 1, 2, 6, 7, 8, 9] (by rfl)⟩
      · clear hl17
        intro e a w hq
        cases cr16 with
        | ret r18 =>
          obtain ⟨rfl, hq⟩ := hq
          obtain rfl := Option.some.inj hF
          exact ⟨.inl rfl, hq⟩
        | next y20 =>
          obtain ⟨rfl, h⟩ := hq
          change SatL c [.slot 0 (lpVP p_0 0), .slot 2 (strVP a_2), .slot 4 (lpVP (b3 0) 0), .res (lb p_0 153 [one (eqVP h_0_0), one (eqVP h_0_1)]), .res (acc h_0_0 9 1 strC s_0.f_Inputs), .res (mapR h_0_1 arrK (fun l => l.length = 32) (fun u y => acc u 9 1 strC y) s_0.f_Digests), .res (lb (b3 0) 25 [bytesCk 32 a_1])] a w at h
          refine inBlock_at ?_
          show Code.wp Tryd.prog _ _ a w
          obtain ⟨hv21, hF⟩ := ite_some hF
          refine regS mixed hn hG h [0, 1, 3, 4, 500] (ov [0] (op_move q0) <| ov [500] (op_nilCheck q0 (ptr_lp _ _)) <| ov [500] (op_fieldAddr_lbm (p := p_0) (n := 1) 0 1 Tryd.underlying153 rfl Tryd.sizeOf150 (by decide) q0 rfl) <| ov [500, 3] (op_load_lb1 [one (eqVP h_0_0)] [] 1 Tryd.isAgg150 q0 rfl rfl) <| ov [2, 6] (op_load_w 1 Tryd.isAgg25 Tryd.sizeOf25 q0) <| ov [1] (op_move q0) <| ov [500] (op_lit (xs := [.tmp 31]) (ys := [a_2]) _ rfl Tryd.underlying151 Tryd.sizeOf9 Tryd.zeroValue9 rfl rfl (by decide) (by decide) ⟨⟨_, q0, (cells_one (one_str _))⟩, trivial⟩ lens_strC) <| og [503, 502] [5] [.slot 33 7 100000 (fun v1_ _ => (tupVP [(eqVP (tup0 v1_)), (eqVP (tup1 v1_))])), .res 7 100000 (fun v1_ _ => (acc (tup0 v1_) 9 1 strC ((lkp a_1 s_0.f_Digests).getD ([] : List (List UInt8))))), .res 7 100000 (fun v1_ _ => (mapH h_0_1 (tup1 v1_) arrK (fun l => l.length = 32) (fun u y => acc u 9 1 strC y) a_1 (ens a_1 ([] : List (List UInt8)) s_0.f_Digests)))] (GOk.plain (op_mapEntry ([] : List (List UInt8)) Tryd.underlying150 (keyArr Tryd.underlying25 Tryd.underlying5 Tryd.type5 Tryd.sizeOf5 Tryd.isAgg5) Tryd.zeroValue151 q0 q1 hk_arr (fun _ _ => ⟨by decide, .inl ⟨rfl, rfl, rfl⟩⟩)) rfl) <| og [502] [] [.slot 30 7 100000 (fun v1_ _ => (eqVP (tup0 v1_)))] (fun {β} => (GOk.plain (op_extract (V := (eqVP (tup0 (β 7)))) q0 rfl) rfl)) <| og [500, 504] [502] [.slot 34 9 100000 (fun v1_ _ => (eqVP v1_)), .res 9 100000 (fun v1_ _ => (acc (v1_) 9 1 strC (((lkp a_1 s_0.f_Digests).getD ([] : List (List UInt8))) ++ [a_2])))] (GOk.plain (op_append (i := Tryd.t9) Tryd.underlying151 Tryd.type9 rfl lens_strC (by decide) rfl q0 q1 hv21) rfl) <| og [505] [] [.slot 35 7 100000 (fun v1_ _ => (eqVP (tup1 v1_)))] (fun {β} => (GOk.plain (op_extract (V := (eqVP (tup1 (β 7)))) q0 rfl) rfl)) <| og [510, 500, 502] [501, 504] [.base (.res (mapR h_0_1 arrK (fun l => l.length = 32) (fun u y => acc u 9 1 strC y) (upd a_1 (((lkp a_1 s_0.f_Digests).getD ([] : List (List UInt8))) ++ [a_2]) (ens a_1 ([] : List (List UInt8)) s_0.f_Digests))))] (fun {β} => (GOk.plain (op_entryStore (eR := (fun u y => acc u 9 1 strC y)) (u := (β 9)) (n := (((lkp a_1 s_0.f_Digests).getD ([] : List (List UInt8))) ++ [a_2])) q0 q1 q2) rfl)) .nil) fun _ a w h => ?_
          obtain ⟨hv22, hF⟩ := ite_some hF
          refine reg mixed hn hG h [500, 4, 503] (ov [0] (op_move q0) <| ov [0] (op_move q0) <| ov [500] (op_nilCheck q0 (ptr_lp _ _)) <| ov [500] (op_fieldAddr_lbm (p := p_0) (n := 1) 0 0 Tryd.underlying153 rfl Tryd.sizeOf151 (by decide) q0 rfl) <| ov [500, 2] (op_load_lb1 [] [one (eqVP h_0_1)] 1 Tryd.isAgg151 q0 rfl rfl) <| ov [1] (op_move q0) <| ov [500] (op_lit (xs := [.tmp 41]) (ys := [a_2]) _ rfl Tryd.underlying151 Tryd.sizeOf9 Tryd.zeroValue9 rfl rfl (by decide) (by decide) ⟨⟨_, q0, (cells_one (one_str _))⟩, trivial⟩ lens_strC) <| og [502, 500] [3] [.slot 43 7 100000 (fun v1_ _ => (eqVP v1_)), .res 7 100000 (fun v1_ _ => (acc (v1_) 9 1 strC (s_0.f_Inputs ++ [a_2])))] (GOk.plain (op_append (i := Tryd.t9) Tryd.underlying151 Tryd.type9 rfl lens_strC (by decide) rfl q0 q1 hv22) rfl) <| ov [508] (op_nilCheck q0 (ptr_lp _ _)) <| ov [500] (op_fieldAddr_lbm (p := p_0) (n := 1) 0 0 Tryd.underlying153 rfl Tryd.sizeOf151 (by decide) q0 rfl) <| og [500, 503, 502] [2] [.res 7 100000 (fun v1_ _ => (lb p_0 153 [one (eqVP (v1_)), one (eqVP h_0_1)]))] (fun {β} => (GOk.plain (op_store_lb [] [one (eqVP h_0_0)] [one (eqVP h_0_1)] [one (eqVP ((β 7)))] Tryd.sizeOf151 q0 (opone 1 2 rfl rfl acc_one) (cells_h _) rfl rfl rfl) rfl)) .nil) fun b23 a w h => ?_
          replace h := h.unsep 2 1 rfl rfl (by decide)
          replace h := h.unsep 0 2 rfl rfl (by decide)
          replace h := h.conv 0 rfl (R' := RLog_e p_0 (some ⟨s_0.f_Inputs ++ [a_2], upd a_1 (((lkp a_1 s_0.f_Digests).getD ([] : List (List UInt8))) ++ [a_2]) (ens a_1 ([] : List (List UInt8)) s_0.f_Digests)⟩)) (RLog_packo (v0 := (b23 7)) (v1 := h_0_1) (o := (some ⟨s_0.f_Inputs ++ [a_2], upd a_1 (((lkp a_1 s_0.f_Digests).getD ([] : List (List UInt8))) ++ [a_2]) (ens a_1 ([] : List (List UInt8)) s_0.f_Digests)⟩)))
          replace h := h.sub [0] (by rfl)
          change SatL c [.res (RLog_e p_0 (some ⟨s_0.f_Inputs ++ [a_2], upd a_1 (((lkp a_1 s_0.f_Digests).getD ([] : List (List UInt8))) ++ [a_2]) (ens a_1 ([] : List (List UInt8)) s_0.f_Digests)⟩))] a w at h
          obtain rfl := Option.some.inj hF
          exact ⟨.inr rfl, retn h (rs := []) (Vs := []) Tryd.results146 (by decide) trivial [0] [(RLog_e p_0 (some ⟨s_0.f_Inputs ++ [a_2], upd a_1 (((lkp a_1 s_0.f_Digests).getD ([] : List (List UInt8))) ++ [a_2]) (ens a_1 ([] : List (List UInt8)) s_0.f_Digests)⟩))] rfl rfl rfl⟩

def ref04_Log_Of (L_0 : Option O_RLog) (a_1 : Int) (a_2 : List (List UInt8)) : Option ((List UInt8) × (Option O_RLog)) := ((ref04_Input a_1 a_2).bind fun r2 => ((ref01_Sum r2).bind fun r3 => ((ref04_Log_Note L_0 r3 r2).bind fun r5 => some (r3, r5))))
theorem ref04_Log_Of_ok {p_0 : Value} {L_0 : Option O_RLog} {a_1 : Int} {a_2 : List (List UInt8)} {r : (List UInt8) × (Option O_RLog)} (hF : ref04_Log_Of L_0 a_1 a_2 = some r) : CallOk Tryd.prog KG 88 [(eqVP p_0), (intVP .u8 a_1), (slVP strC a_2)] [(RLog_e p_0 L_0)] (fun _ => [RLog_e p_0 r.2]) (aggVP [bytesCk 32 r.1]) := by
  refine CallOk.intro 19 Tryd.func88 rfl Tryd.ntmps88 (Nat.le_of_ble_eq_true rfl) ?_
  intro c a w hG hn h
  unfold ref04_Log_Of at hF
  change SatL c [.slot 0 (eqVP p_0), .slot 1 (intVP .u8 a_1), .slot 2 (slVP strC a_2), .res (RLog_e p_0 L_0)] a w at h
  refine regS mixed hn hG h [0, 1, 2, 501, 3, 500] (ob [] (op_alloc Tryd.zeroValue25 z25) .nil) fun b1 a w h => ?_
  obtain ⟨r2, hr2, hF⟩ := bind_some hF
  refine regS mixed hn hG h [0, 3, 500, 4, 5] (ov [1] (op_move q0) <| ov [2] (op_move q0) <| oc [501, 500] [] Tryd.call144 (ref04_Input_ok hr2) ⟨q0, q1, trivial⟩ <| ov [500] (op_assign q0) .nil) fun _ a w h => ?_
  obtain ⟨r3, hr3, hF⟩ := bind_some hF
  refine regS mixed hn hG h [0, 1, 2, 502, 3, 4, 500] (ov [2] (op_move q0) <| oc [500] [] Tryd.call145 (ref01_Sum_ok hr3) ⟨q0, trivial⟩ <| ob [] (op_alloc Tryd.zeroValue25 z25) <| og [501, 502] [500] [.res 2 100000 (fun v1_ _ => (lb (v1_) 25 [bytesCk 32 r3]))] (GOk.plain (op_store_w Tryd.sizeOf25 q0 q1 (cells_agg _)) rfl) .nil) fun b4 a w h => ?_
  obtain ⟨r5, hr5, hF⟩ := bind_some hF
  refine regS mixed hn hG h [1, 3, 5, 6, 500] (ov [0] (op_move q0) <| ov [3, 6] (op_load_w 1 Tryd.isAgg25 Tryd.sizeOf25 q0) <| ov [2] (op_move q0) <| oc [502, 501, 500] [4] Tryd.call146 (ref04_Log_Note_ok hr5) ⟨q0, q1, q2, trivial⟩ .nil) fun _ a w h => ?_
  refine regS mixed hn hG h [0, 500, 4] (ov [1, 3] (op_load_w 1 Tryd.isAgg25 Tryd.sizeOf25 q0) <| ou [0, 500] 2 (op_store_w Tryd.sizeOf25 q0 q1 (cells_agg _)) .nil) fun _ a w h => ?_
  refine wp_ret ?_
  obtain rfl := Option.some.inj hF
  exact ⟨.inl rfl, ret1 h Tryd.results88 (r_cell 0 1 rfl rfl Tryd.isAgg25 Tryd.sizeOf25 rfl) [2] [(RLog_e p_0 r5)] rfl rfl rfl⟩

def ref03_Bytes (a_0 : List UInt8) : Option (List UInt8) := some (a_0.take ((32 : Int).toNat - (0 : Int).toNat))
theorem ref03_Bytes_ok {a_0 : List UInt8} {r : (List UInt8)} (hF : ref03_Bytes a_0 = some r) : CallOk Tryd.prog KG 126 [(aggVP [bytesCk 32 a_0])] [] (fun _ => []) (strVP r) := by
  refine CallOk.intro 5 Tryd.func126 rfl Tryd.ntmps126 (Nat.le_of_ble_eq_true rfl) ?_
  intro c a w hG hn h
  unfold ref03_Bytes at hF
  change SatL c [.slot 0 (aggVP [bytesCk 32 a_0])] a w at h
  refine regS mixed hn hG h [502, 501] (ob [0] (op_box q0 (cells_agg _)) <| ov [] (op_assign (opc (sc _ (by decide)))) .nil) fun b1 a w h => ?_
  refine regS mixed hn hG h [500] (ov [0] (op_slice_lb (a := 0) (b := 32) Tryd.underlying25 Tryd.sizeOf5 q0 rfl rfl (by decide)) <| ov [500, 1] (op_str_lsl [] [] 1 Tryd.underlying259 Tryd.underlying5 Tryd.underlying9 q0 rfl rfl (by decide) (by decide)) <| ov [500] (op_assign q0) .nil) fun _ a w h => ?_
  refine wp_ret ?_
  obtain rfl := Option.some.inj hF
  exact ⟨.inl rfl, ret1 h Tryd.results126 (r_tmp 0 rfl) [] [] rfl rfl rfl⟩

def ref04_Log_Two (L_0 : Option O_RLog) (a_1 : Int) (a_2 : List UInt8) (a_3 : List UInt8) : Option ((List UInt8) × (Option O_RLog)) := ((ref03_Bytes a_2).bind fun r4 => ((ref03_Bytes a_3).bind fun r5 => ((ref04_Log_Of L_0 a_1 [r4, r5]).bind fun r6 => some (r6.1, r6.2))))
theorem ref04_Log_Two_ok {p_0 : Value} {L_0 : Option O_RLog} {a_1 : Int} {a_2 : List UInt8} {a_3 : List UInt8} {r : (List UInt8) × (Option O_RLog)} (hF : ref04_Log_Two L_0 a_1 a_2 a_3 = some r) : CallOk Tryd.prog KG 87 [(eqVP p_0), (intVP .u8 a_1), (aggVP [bytesCk 32 a_2]), (aggVP [bytesCk 32 a_3])] [(RLog_e p_0 L_0)] (fun _ => [RLog_e p_0 r.2]) (aggVP [bytesCk 32 r.1]) := by
  refine CallOk.intro 17 Tryd.func87 rfl Tryd.ntmps87 (Nat.le_of_ble_eq_true rfl) ?_
  intro c a w hG hn h
  unfold ref04_Log_Two at hF
  change SatL c [.slot 0 (eqVP p_0), .slot 1 (intVP .u8 a_1), .slot 2 (aggVP [bytesCk 32 a_2]), .slot 3 (aggVP [bytesCk 32 a_3]), .res (RLog_e p_0 L_0)] a w at h
  refine regS mixed hn hG h [0, 1, 505, 503, 501, 4, 504, 502, 500] (ob [2] (op_box q0 (cells_agg _)) <| ob [3] (op_box q0 (cells_agg _)) <| ob [] (op_alloc Tryd.zeroValue25 z25) .nil) fun b1 a w h => ?_
  obtain ⟨r4, hr4, hF⟩ := bind_some hF
  obtain ⟨r5, hr5, hF⟩ := bind_some hF
  obtain ⟨r6, hr6, hF⟩ := bind_some hF
  refine regS mixed hn hG h [4, 500, 501] (ov [0] (op_move q0) <| ov [1] (op_move q0) <| ov [2, 6] (op_load_w 1 Tryd.isAgg25 Tryd.sizeOf25 q0) <| oc [500] [] Tryd.call126 (ref03_Bytes_ok hr4) ⟨q0, trivial⟩ <| ov [3, 7] (op_load_w 1 Tryd.isAgg25 Tryd.sizeOf25 q0) <| oc [500] [] Tryd.call126 (ref03_Bytes_ok hr5) ⟨q0, trivial⟩ <| ov [502, 500] (op_lit (xs := [.tmp 12, .tmp 14]) (ys := [r4, r5]) _ rfl Tryd.underlying151 Tryd.sizeOf9 Tryd.zeroValue9 rfl rfl (by decide) (by decide) ⟨⟨_, q0, (cells_one (one_str _))⟩, ⟨_, q1, (cells_one (one_str _))⟩, trivial⟩ lens_strC) <| oc [506, 505, 500] [5] Tryd.call88 (ref04_Log_Of_ok hr6) ⟨q0, q1, q2, trivial⟩ <| ou [4, 501] 8 (op_store_w Tryd.sizeOf25 q0 q1 (cells_agg _)) .nil) fun _ a w h => ?_
  refine wp_ret ?_
  obtain rfl := Option.some.inj hF
  exact ⟨.inl rfl, ret1 h Tryd.results87 (r_cell 0 1 rfl rfl Tryd.isAgg25 Tryd.sizeOf25 rfl) [2] [(RLog_e p_0 r6.2)] rfl rfl rfl⟩

def ref07_size.b1 (a_0 : Int) (x2 : Int) (x3 : Int) : Option (Flow Int (Int × Int)) := (if (decide (x3 < a_0)) = true then some (.cont (IntKind.wrap .i64 (2 * x2), IntKind.wrap .i64 (x3 + 1))) else some (.brk (x2, x3)))
def ref07_size (a_0 : Int) : Option Int := ((loopN (fun s : Int × Int => ref07_size.b1 a_0 s.1 s.2) ((a_0 - 0 : Int).toNat + 2) (1, 0)).bind fun cr => match cr with | .ret r => some r | .next (y12, y13) => some y12)
theorem ref07_size_ok {a_0 : Int} {r : Int} (hF : ref07_size a_0 = some r) : CallOk Tryd.prog KG 139 [(intVP .i64 a_0)] [] (fun _ => []) (intVP .i64 r) := by
  refine CallOk.intro 13 Tryd.func139 rfl Tryd.ntmps139 (Nat.le_of_ble_eq_true rfl) ?_
  intro c a w hG hn h
  unfold ref07_size at hF
  change SatL c [.slot 0 (intVP .i64 a_0)] a w at h
  refine regS mixed hn hG h [0] (ov [] (op_assign qi) .nil) fun _ a w h => ?_
  refine regS mixed hn hG h [0, 500] (ov [] (op_assign qi) .nil) fun _ a w h => ?_
  refine wp_seq ?_
  refine regS mixed hn hG h [0, 1, 500] (ov [] (op_assign qi) .nil) fun _ a w h => ?_
  refine wp_block ?_
  obtain ⟨cr8, hl9, hF⟩ := bind_some hF
  refine wp_mono (wp_loopN (R := Int) (S := Int × Int) (fun s a w => SatL c [.slot 0 (intVP .i64 a_0), .slot 3 (intVP .i64 s.1), .slot 4 (intVP .i64 s.2)] a w) (fun res e a w => match res with | .next s => e = .exit 0 ∧ SatL c [.slot 3 (intVP .i64 s.1)] a w | .ret r => e = .ret ∧ RetOk Tryd.prog Tryd.f139 c (intVP .i64 r) (fun _ => []) a w) ?_ _ (1, 0) _ _ _ (h.sub [0, 1, 2] (by rfl)) hl9) ?_
  · clear hl9 hF h
    intro s a w o h hF
    obtain ⟨x2, x3⟩ := s
    change ref07_size.b1 a_0 x2 x3 = some o at hF
    unfold ref07_size.b1 at hF
    change SatL c [.slot 0 (intVP .i64 a_0), .slot 3 (intVP .i64 x2), .slot 4 (intVP .i64 x3)] a w at h
    refine wp_seq ?_
    refine regS mixed hn hG h [0, 1, 2, 500] (ov [2] (op_move q0) <| ov [0] (op_move q0) <| ov [501, 500] (op_bin bin_lss q0 q1) .nil) fun _ a w h => ?_
    refine cnd h hF 3 [0, 1, 2] [0, 1, 2] (fun hb7 hF h => ?_) (fun hb7 hF h => ?_)
    · refine wp_skip ?_
      show Code.wp Tryd.prog _ _ a w
      refine wp_seq ?_
      refine wp_block ?_
      refine reg mixed hn hG h [0, 500, 2] (ov [1] (op_move q0) <| ov [500] (op_bin bin_mul qi q0) <| od [500] 1 (op_assign q0) .nil) fun _ a w h => ?_
      show Code.wp Tryd.prog _ _ a w
      refine reg mixed hn hG h [0, 1, 500] (ov [2] (op_move q0) <| ov [500] (op_bin bin_add q0 qi) <| od [500] 2 (op_assign q0) .nil) fun _ a w h => ?_
      obtain rfl := Option.some.inj hF
      exact ⟨rfl, h.sub [0, 1, 2] (by rfl)⟩
    · refine wp_exit ?_
      obtain rfl := Option.some.inj hF
      exact ⟨exit_ne _, rfl, h.sub [1] (by rfl)⟩
  · clear hl9
    intro e a w hq
    cases cr8 with
    | ret r10 =>
      obtain ⟨rfl, hq⟩ := hq
      obtain rfl := Option.some.inj hF
      exact ⟨.inl rfl, hq⟩
    | next s11 =>
      obtain ⟨y12, y13⟩ := s11
      obtain ⟨rfl, h⟩ := hq
      change SatL c [.slot 3 (intVP .i64 y12)] a w at h
      refine inBlock_at ?_
      show Code.wp Tryd.prog _ _ a w
      refine regS mixed hn hG h [500] (ov [0] (op_move q0) <| ov [500] (op_assign q0) .nil) fun _ a w h => ?_
      refine wp_ret ?_
      obtain rfl := Option.some.inj hF
      exact ⟨.inl rfl, ret1 h Tryd.results139 (r_tmp 0 rfl) [] [] rfl rfl rfl⟩

def ref07_node_s (slf : (Option O_RLog) → (List (List UInt8)) → (List (List UInt8)) → Int → Int → Option ((List UInt8) × (Option O_RLog))) (L_0 : Option O_RLog) (a_1 : List (List UInt8)) (a_2 : List (List UInt8)) (a_3 : Int) (a_4 : Int) : Option ((List UInt8) × (Option O_RLog)) := ((ref07_size a_3).bind fun r2 => (if (decide ((a_2.length : Int) ≤ (IntKind.wrap .i64 (a_4 * r2)))) = true then (if (0 : Int) ≤ a_3 ∧ a_3 < a_1.length then some (a_1.getD a_3.toNat default, L_0) else none) else (if (decide (a_3 = (0 : Int))) = true then (if (0 : Int) ≤ a_4 ∧ a_4 < a_2.length then some (a_2.getD a_4.toNat default, L_0) else none) else ((slf L_0 a_1 a_2 (IntKind.wrap .i64 (a_3 - 1)) (IntKind.wrap .i64 (2 * a_4))).bind fun r7 => ((slf r7.2 a_1 a_2 (IntKind.wrap .i64 (a_3 - 1)) (IntKind.wrap .i64 ((IntKind.wrap .i64 (2 * a_4)) + 1))).bind fun r9 => ((ref04_Log_Two r9.2 6 r7.1 r9.1).bind fun r11 => some (r11.1, r11.2)))))))
def ref07_node_f : Nat → (Option O_RLog) → (List (List UInt8)) → (List (List UInt8)) → Int → Int → Option ((List UInt8) × (Option O_RLog))
  | 0, _, _, _, _, _ => none
  | k + 1, L_0, a_1, a_2, a_3, a_4 => ref07_node_s (ref07_node_f k) L_0 a_1 a_2 a_3 a_4
def ref07_node (L_0 : Option O_RLog) (a_1 : List (List UInt8)) (a_2 : List (List UInt8)) (a_3 : Int) (a_4 : Int) : Option ((List UInt8) × (Option O_RLog)) := ref07_node_f 100000 L_0 a_1 a_2 a_3 a_4
theorem ref07_node_s_ok {slf : (Option O_RLog) → (List (List UInt8)) → (List (List UInt8)) → Int → Int → Option ((List UInt8) × (Option O_RLog))} (slf_ok : ∀ {p_0 : Value} {L_0 : Option O_RLog} {a_1 : List (List UInt8)} {a_2 : List (List UInt8)} {a_3 : Int} {a_4 : Int} {r : (List UInt8) × (Option O_RLog)}, slf L_0 a_1 a_2 a_3 a_4 = some r → CallOk Tryd.prog KG 78 [(eqVP p_0), (slVP (dC 32) a_1), (slVP (dC 32) a_2), (intVP .i64 a_3), (intVP .i64 a_4)] [(RLog_e p_0 L_0)] (fun _ => [RLog_e p_0 r.2]) (aggVP [bytesCk 32 r.1])) {p_0 : Value} {L_0 : Option O_RLog} {a_1 : List (List UInt8)} {a_2 : List (List UInt8)} {a_3 : Int} {a_4 : Int} {r : (List UInt8) × (Option O_RLog)} (hF : ref07_node_s slf L_0 a_1 a_2 a_3 a_4 = some r) : CallOk Tryd.prog KG 78 [(eqVP p_0), (slVP (dC 32) a_1), (slVP (dC 32) a_2), (intVP .i64 a_3), (intVP .i64 a_4)] [(RLog_e p_0 L_0)] (fun _ => [RLog_e p_0 r.2]) (aggVP [bytesCk 32 r.1]) := by
  refine CallOk.intro 51 Tryd.func78 rfl Tryd.ntmps78 (Nat.le_of_ble_eq_true rfl) ?_
  intro c a w hG hn h
  unfold ref07_node_s at hF
  change SatL c [.slot 0 (eqVP p_0), .slot 1 (slVP (dC 32) a_1), .slot 2 (slVP (dC 32) a_2), .slot 3 (intVP .i64 a_3), .slot 4 (intVP .i64 a_4), .res (RLog_e p_0 L_0)] a w at h
  refine regS mixed hn hG h [0, 1, 2, 3, 4, 501, 5, 500] (ob [] (op_alloc Tryd.zeroValue25 z25) .nil) fun b1 a w h => ?_
  refine wp_seq ?_
  obtain ⟨r2, hr2, hF⟩ := bind_some hF
  refine regS mixed hn hG h [0, 1, 2, 3, 4, 5, 500, 6, 7] (ov [4] (op_move q0) <| ov [3] (op_move q0) <| oc [500] [] Tryd.call139 (ref07_size_ok hr2) ⟨q0, trivial⟩ <| ov [502, 500] (op_bin bin_mul q0 q1) <| ov [2] (op_move q0) <| ov [500] (op_len_sl Tryd.underlying26 q0) <| ov [502, 500] (op_bin bin_geq q0 q1) .nil) fun _ a w h => ?_
  refine cnd h hF 6 [1, 3, 5, 7, 8] [0, 1, 2, 3, 4, 5, 7, 8] (fun hb3 hF h => ?_) (fun hb3 hF h => ?_)
  · obtain ⟨hv4, hF⟩ := ite_some hF
    refine regS mixed hn hG h [2, 3, 500] (ov [0] (op_move q0) <| ov [1] (op_move q0) <| ov [501, 500] (op_indexAddr_sl Tryd.underlying26 Tryd.sizeOf25 (lens_dC 32) q0 q1 hv4) <| ov [500] (op_load_pp [bytesCk 32 (a_1.getD a_3.toNat default)] [] Tryd.isAgg25 Tryd.sizeOf25 q0 rfl) <| ou [2, 500] 4 (op_store_w Tryd.sizeOf25 q0 q1 (cells_agg _)) .nil) fun _ a w h => ?_
    refine wp_ret ?_
    obtain rfl := Option.some.inj hF
    exact ⟨.inl rfl, ret1 h Tryd.results78 (r_cell 0 2 rfl rfl Tryd.isAgg25 Tryd.sizeOf25 rfl) [1] [(RLog_e p_0 L_0)] rfl rfl rfl⟩
  · refine wp_skip ?_
    show Code.wp Tryd.prog _ _ a w
    refine wp_seq ?_
    refine regS mixed hn hG h [0, 1, 2, 3, 4, 5, 500, 6, 7] (ov [3] (op_move q0) <| ov [500] (op_bin bin_eql q0 qi) .nil) fun _ a w h => ?_
    refine cnd h hF 6 [2, 4, 5, 7, 8] [0, 1, 2, 3, 4, 5, 7, 8] (fun hb5 hF h => ?_) (fun hb5 hF h => ?_)
    · obtain ⟨hv6, hF⟩ := ite_some hF
      refine regS mixed hn hG h [2, 3, 500] (ov [0] (op_move q0) <| ov [1] (op_move q0) <| ov [501, 500] (op_indexAddr_sl Tryd.underlying26 Tryd.sizeOf25 (lens_dC 32) q0 q1 hv6) <| ov [500] (op_load_pp [bytesCk 32 (a_2.getD a_4.toNat default)] [] Tryd.isAgg25 Tryd.sizeOf25 q0 rfl) <| ou [2, 500] 4 (op_store_w Tryd.sizeOf25 q0 q1 (cells_agg _)) .nil) fun _ a w h => ?_
      refine wp_ret ?_
      obtain rfl := Option.some.inj hF
      exact ⟨.inl rfl, ret1 h Tryd.results78 (r_cell 0 2 rfl rfl Tryd.isAgg25 Tryd.sizeOf25 rfl) [1] [(RLog_e p_0 L_0)] rfl rfl rfl⟩
    · refine wp_skip ?_
      show Code.wp Tryd.prog _ _ a w
      obtain ⟨r7, hr7, hF⟩ := bind_some hF
      refine regS mixed hn hG h [0, 1, 2, 3, 4, 5, 502, 7, 503, 500] (ov [0] (op_move q0) <| ov [1] (op_move q0) <| ov [2] (op_move q0) <| ov [3] (op_move q0) <| ov [500] (op_bin bin_sub q0 qi) <| ov [4] (op_move q0) <| ov [500] (op_bin bin_mul qi q0) <| oc [506, 505, 504, 502, 500] [6] Tryd.call78 (slf_ok hr7) ⟨q0, q1, q2, q3, (opt 4 rfl), trivial⟩ <| ob [] (op_alloc Tryd.zeroValue25 z25) <| og [501, 503] [500] [.res 8 100000 (fun v1_ _ => (lb (v1_) 25 [bytesCk 32 r7.1]))] (GOk.plain (op_store_w Tryd.sizeOf25 q0 q1 (cells_agg _)) rfl) .nil) fun b8 a w h => ?_
      obtain ⟨r9, hr9, hF⟩ := bind_some hF
      refine regS mixed hn hG h [0, 5, 6, 502, 7, 9, 503, 500] (ov [0] (op_move q0) <| ov [1] (op_move q0) <| ov [2] (op_move q0) <| ov [3] (op_move q0) <| ov [500] (op_bin bin_sub q0 qi) <| ov [4] (op_move q0) <| ov [500] (op_bin bin_mul qi q0) <| ov [500] (op_bin bin_add q0 qi) <| oc [507, 506, 505, 503, 500] [8] Tryd.call78 (slf_ok hr9) ⟨q0, q1, q2, q3, (opt 4 rfl), trivial⟩ <| ob [] (op_alloc Tryd.zeroValue25 z25) <| og [501, 503] [500] [.res 9 100000 (fun v1_ _ => (lb (v1_) 25 [bytesCk 32 r9.1]))] (GOk.plain (op_store_w Tryd.sizeOf25 q0 q1 (cells_agg _)) rfl) .nil) fun b10 a w h => ?_
      obtain ⟨r11, hr11, hF⟩ := bind_some hF
      refine regS mixed hn hG h [1, 500, 501] (ov [0] (op_move q0) <| ov [2, 5] (op_load_w 1 Tryd.isAgg25 Tryd.sizeOf25 q0) <| ov [3, 7] (op_load_w 1 Tryd.isAgg25 Tryd.sizeOf25 q0) <| oc [502, 501, 500] [6] Tryd.call87 (ref04_Log_Two_ok hr11) ⟨q0, qi, q1, q2, trivial⟩ <| ou [1, 501] 4 (op_store_w Tryd.sizeOf25 q0 q1 (cells_agg _)) .nil) fun _ a w h => ?_
      refine wp_ret ?_
      obtain rfl := Option.some.inj hF
      exact ⟨.inl rfl, ret1 h Tryd.results78 (r_cell 0 1 rfl rfl Tryd.isAgg25 Tryd.sizeOf25 rfl) [2] [(RLog_e p_0 r11.2)] rfl rfl rfl⟩
theorem ref07_node_f_ok : ∀ (k : Nat) {p_0 : Value} {L_0 : Option O_RLog} {a_1 : List (List UInt8)} {a_2 : List (List UInt8)} {a_3 : Int} {a_4 : Int} {r : (List UInt8) × (Option O_RLog)}, ref07_node_f k L_0 a_1 a_2 a_3 a_4 = some r → CallOk Tryd.prog KG 78 [(eqVP p_0), (slVP (dC 32) a_1), (slVP (dC 32) a_2), (intVP .i64 a_3), (intVP .i64 a_4)] [(RLog_e p_0 L_0)] (fun _ => [RLog_e p_0 r.2]) (aggVP [bytesCk 32 r.1])
  | 0, _, _, _, _, _, _, _ => fun hF => by cases hF
  | k + 1, _, _, _, _, _, _, _ => fun hF => ref07_node_s_ok (fun h => ref07_node_f_ok k h) hF
theorem ref07_node_ok {p_0 : Value} {L_0 : Option O_RLog} {a_1 : List (List UInt8)} {a_2 : List (List UInt8)} {a_3 : Int} {a_4 : Int} {r : (List UInt8) × (Option O_RLog)} (hF : ref07_node L_0 a_1 a_2 a_3 a_4 = some r) : CallOk Tryd.prog KG 78 [(eqVP p_0), (slVP (dC 32) a_1), (slVP (dC 32) a_2), (intVP .i64 a_3), (intVP .i64 a_4)] [(RLog_e p_0 L_0)] (fun _ => [RLog_e p_0 r.2]) (aggVP [bytesCk 32 r.1]) := ref07_node_f_ok 100000 hF

def ref07_Noughts.b1 (x12 : Int) (x13 : Option O_RLog) (x14 : List UInt8) (x15 : List (List UInt8)) : Option (Flow ((List (List UInt8)) × (Option O_RLog)) (Int × (Option O_RLog) × (List UInt8) × (List (List UInt8)))) := (if (decide (x12 < (33 : Int))) = true then (if x15.length + [x14].length ≤ mxl ∧ (x15.length + [x14].length) * 32 ≤ 140737488355328 then ((ref04_Log_Two x13 6 x14 x14).bind fun r29 => some (.cont (IntKind.wrap .i64 (x12 + 1), r29.2, r29.1, x15 ++ [x14]))) else none) else some (.brk (x12, x13, x14, x15)))
def ref07_Noughts (L_0 : Option O_RLog) : Option ((List (List UInt8)) × (Option O_RLog)) := ((loopN (fun s : Int × (Option O_RLog) × (List UInt8) × (List (List UInt8)) => ref07_Noughts.b1 s.1 s.2.1 s.2.2.1 s.2.2.2) ((33 - 0 : Int).toNat + 2) (0, L_0, (List.replicate 32 0), [])).bind fun cr => match cr with | .ret r => some r | .next (y34, y35, y36, y37) => some (y37, y35))
theorem ref07_Noughts_ok {p_0 : Value} {L_0 : Option O_RLog} {r : (List (List UInt8)) × (Option O_RLog)} (hF : ref07_Noughts L_0 = some r) : CallOk Tryd.prog KG 79 [(eqVP p_0)] [(RLog_e p_0 L_0)] (fun _ => [RLog_e p_0 r.2]) (slVP (dC 32) r.1) := by
  refine CallOk.intro 19 Tryd.func79 rfl Tryd.ntmps79 (Nat.le_of_ble_eq_true rfl) ?_
  intro c a w hG hn h
  unfold ref07_Noughts at hF
  change SatL c [.slot 0 (eqVP p_0), .res (RLog_e p_0 L_0)] a w at h
  refine regS mixed hn hG h [0, 1] (ov [] (op_assign (opc (ec _))) .nil) fun _ a w h => ?_
  refine regS mixed hn hG h [0, 500, 1] (ov [] (op_assign (opc (ec _))) .nil) fun _ a w h => ?_
  refine regS mixed hn hG h [0, 1, 501, 2, 500] (ob [] (op_alloc Tryd.zeroValue25 z25) .nil) fun b1 a w h => ?_
  refine wp_seq ?_
  refine regS mixed hn hG h [0, 1, 2, 500, 3, 4] (ov [] (op_assign qi) .nil) fun _ a w h => ?_
  refine wp_block ?_
  obtain ⟨q7, h⟩ : ∃ q7 : Value, SatL c [.slot 0 (eqVP p_0), .slot 3 (eqVP q7), .slot 4 (lpVP (b1 0) 0), .slot 5 (intVP .i64 0), .res (RLog_e p_0 L_0), .res (lb (b1 0) 25 [bytesCk 32 (List.replicate 32 0)]), .res (acc q7 25 32 (dC 32) [])] a w := ⟨.slice none 0 0, (h.nilacc 25 32 (dC 32)).sub [0, 1, 2, 3, 4, 5, 6] (by rfl)⟩
  obtain ⟨cr30, hl31, hF⟩ := bind_some hF
  refine wp_mono (wp_loopN (R := (List (List UInt8)) × (Option O_RLog)) (S := Int × (Option O_RLog) × (List UInt8) × (List (List UInt8))) (fun s a w => ∃ q16 : Value, SatL c [.slot 0 (eqVP p_0), .slot 3 (eqVP q16), .slot 4 (lpVP (b1 0) 0), .slot 5 (intVP .i64 s.1), .res (RLog_e p_0 s.2.1), .res (lb (b1 0) 25 [bytesCk 32 s.2.2.1]), .res (acc q16 25 32 (dC 32) s.2.2.2)] a w) (fun res e a w => match res with | .next s => e = .exit 0 ∧ ∃ q16 : Value, SatL c [.slot 3 (eqVP q16), .res (RLog_e p_0 s.2.1), .res (acc q16 25 32 (dC 32) s.2.2.2)] a w | .ret r => e = .ret ∧ RetOk Tryd.prog Tryd.f79 c (slVP (dC 32) r.1) (fun _ => [RLog_e p_0 r.2]) a w) ?_ _ (0, L_0, (List.replicate 32 0), []) _ _ _ ⟨q7, (h.sub [0, 1, 2, 3, 4, 5, 6] (by rfl))⟩ hl31) ?_
  · clear hl31 hF h
    intro s a w o h hF
    obtain ⟨x12, x13, x14, x15⟩ := s
    obtain ⟨q16, h⟩ := h
    change ref07_Noughts.b1 x12 x13 x14 x15 = some o at hF
    unfold ref07_Noughts.b1 at hF
    change SatL c [.slot 0 (eqVP p_0), .slot 3 (eqVP q16), .slot 4 (lpVP (b1 0) 0), .slot 5 (intVP .i64 x12), .res (RLog_e p_0 x13), .res (lb (b1 0) 25 [bytesCk 32 x14]), .res (acc q16 25 32 (dC 32) x15)] a w at h
    refine wp_seq ?_
    refine regS mixed hn hG h [0, 1, 2, 3, 500, 4, 5, 6] (ov [3] (op_move q0) <| ov [500] (op_bin bin_lss q0 qi) .nil) fun _ a w h => ?_
    refine cnd h hF 4 [0, 1, 2, 3, 5, 6, 7] [0, 1, 2, 3, 5, 6, 7] (fun hb26 hF h => ?_) (fun hb26 hF h => ?_)
    · refine wp_skip ?_
      show Code.wp Tryd.prog _ _ a w
      refine wp_seq ?_
      refine wp_block ?_
      obtain ⟨hv27, hF⟩ := ite_some hF
      refine regS mixed hn hG h [0, 500, 2, 3, 4, 5, 501] (ov [1] (op_move q0) <| ov [2, 5] (op_load_w 1 Tryd.isAgg25 Tryd.sizeOf25 q0) <| ov [500] (op_lit (xs := [.tmp 11]) (ys := [x14]) _ rfl Tryd.underlying26 Tryd.sizeOf25 Tryd.zeroValue25 rfl rfl (by decide) (by decide) ⟨⟨_, q0, (cells_agg _)⟩, trivial⟩ (lens_dC 32)) <| og [502, 500] [6] [.slot 13 3 100000 (fun v1_ _ => (eqVP v1_)), .res 3 100000 (fun v1_ _ => (acc (v1_) 25 32 (dC 32) (x15 ++ [x14])))] (GOk.plain (op_append (i := Tryd.t25) Tryd.underlying26 Tryd.type25 rfl (lens_dC 32) (by decide) rfl q0 q1 hv27) rfl) <| og [501] [1] [.slot 3 3 100000 (fun v1_ _ => (eqVP v1_))] (fun {β} => (GOk.drop _ (GOk.plain (op_assign (V := (eqVP (β 3))) q0) rfl))) .nil) fun b28 a w h => ?_
      obtain ⟨r29, hr29, hF⟩ := bind_some hF
      refine reg mixed hn hG h [0, 1, 2, 3, 500, 6, 501] (ov [0] (op_move q0) <| ov [2, 5] (op_load_w 1 Tryd.isAgg25 Tryd.sizeOf25 q0) <| ov [2, 5] (op_load_w 1 Tryd.isAgg25 Tryd.sizeOf25 q0) <| oc [502, 501, 500] [4] Tryd.call87 (ref04_Log_Two_ok hr29) ⟨q0, qi, q1, q2, trivial⟩ <| ou [2, 501] 5 (op_store_w Tryd.sizeOf25 q0 q1 (cells_agg _)) .nil) fun _ a w h => ?_
      show Code.wp Tryd.prog _ _ a w
      refine reg mixed hn hG h [0, 1, 2, 500, 4, 5, 6] (ov [3] (op_move q0) <| ov [500] (op_bin bin_add q0 qi) <| od [500] 3 (op_assign q0) .nil) fun _ a w h => ?_
      obtain rfl := Option.some.inj hF
      exact ⟨rfl, (b28 3), h.sub [0, 1, 2, 3, 6, 4, 5] (by rfl)⟩
    · refine wp_exit ?_
      obtain rfl := Option.some.inj hF
      exact ⟨exit_ne _, rfl, q16, h.sub [1, 4, 6] (by rfl)⟩
  · clear hl31
    intro e a w hq
    cases cr30 with
    | ret r32 =>
      obtain ⟨rfl, hq⟩ := hq
      obtain rfl := Option.some.inj hF
      exact ⟨.inl rfl, hq⟩
    | next s33 =>
      obtain ⟨y34, y35, y36, y37⟩ := s33
      obtain ⟨rfl, q16, h⟩ := hq
      change SatL c [.slot 3 (eqVP q16), .res (RLog_e p_0 y35), .res (acc q16 25 32 (dC 32) y37)] a w at h
      refine inBlock_at ?_
      show Code.wp Tryd.prog _ _ a w
      refine regS mixed hn hG h [500, 1, 2] (ov [0] (op_move q0) <| ov [500] (op_assign q0) .nil) fun _ a w h => ?_
      refine wp_ret ?_
      obtain rfl := Option.some.inj hF
      exact ⟨.inl rfl, ret1 h Tryd.results79 (r_acc 0 2 rfl rfl) [1] [(RLog_e p_0 y35)] rfl rfl rfl⟩

def ref07_first (a_0 : List (List UInt8)) : Option (List (List UInt8)) := (if (decide ((4096 : Int) < (a_0.length : Int))) = true then (if (0 : Int) ≤ 0 ∧ (0 : Int) ≤ 4096 ∧ (4096 : Int) ≤ a_0.length then some ((a_0.take 4096).drop (0 : Int).toNat) else none) else some a_0)
theorem ref07_first_ok {a_0 : List (List UInt8)} {r : (List (List UInt8))} (hF : ref07_first a_0 = some r) : CallOk Tryd.prog KG 80 [(slVP (dC 32) a_0)] [] (fun _ => []) (slVP (dC 32) r) := by
  refine CallOk.intro 9 Tryd.func80 rfl Tryd.ntmps80 (Nat.le_of_ble_eq_true rfl) ?_
  intro c a w hG hn h
  unfold ref07_first at hF
  change SatL c [.slot 0 (slVP (dC 32) a_0)] a w at h
  refine regS mixed hn hG h [0] (ov [] (op_assign (opc (ec _))) .nil) fun _ a w h => ?_
  refine wp_seq ?_
  refine regS mixed hn hG h [0, 500] (ov [0] (op_move q0) <| ov [500] (op_len_sl Tryd.underlying26 q0) <| ov [500] (op_bin bin_gtr q0 qi) .nil) fun _ a w h => ?_
  refine cnd h hF 1 [0] [0] (fun hb1 hF h => ?_) (fun hb1 hF h => ?_)
  · obtain ⟨hv2, hF⟩ := ite_some hF
    refine regS mixed hn hG h [500] (ov [0] (op_move q0) <| ov [500] (op_slice_sl (a := 0) (b := 4096) Tryd.underlying26 Tryd.sizeOf25 (lens_dC 32) q0 rfl ⟨_, qi⟩ hv2) <| ov [500] (op_assign q0) .nil) fun _ a w h => ?_
    refine wp_ret ?_
    obtain rfl := Option.some.inj hF
    exact ⟨.inl rfl, ret1 h Tryd.results80 (r_tmp 0 rfl) [] [] rfl rfl rfl⟩
  · refine wp_skip ?_
    show Code.wp Tryd.prog _ _ a w
    refine regS mixed hn hG h [500] (ov [0] (op_move q0) <| ov [500] (op_assign q0) .nil) fun _ a w h => ?_
    refine wp_ret ?_
    obtain rfl := Option.some.inj hF
    exact ⟨.inl rfl, ret1 h Tryd.results80 (r_tmp 0 rfl) [] [] rfl rfl rfl⟩

def ref07_Of (L_0 : Option O_RLog) (a_1 : List (List UInt8)) : Option ((List UInt8) × (Option O_RLog)) := ((ref07_Noughts L_0).bind fun r2 => ((ref07_first a_1).bind fun r3 => ((ref07_node r2.2 r2.1 r3 32 0).bind fun r4 => some (r4.1, r4.2))))
theorem ref07_Of_ok {p_0 : Value} {L_0 : Option O_RLog} {a_1 : List (List UInt8)} {r : (List UInt8) × (Option O_RLog)} (hF : ref07_Of L_0 a_1 = some r) : CallOk Tryd.prog KG 25 [(eqVP p_0), (slVP (dC 32) a_1)] [(RLog_e p_0 L_0)] (fun _ => [RLog_e p_0 r.2]) (aggVP [bytesCk 32 r.1]) := by
  refine CallOk.intro 11 Tryd.func25 rfl Tryd.ntmps25 (Nat.le_of_ble_eq_true rfl) ?_
  intro c a w hG hn h
  unfold ref07_Of at hF
  change SatL c [.slot 0 (eqVP p_0), .slot 1 (slVP (dC 32) a_1), .res (RLog_e p_0 L_0)] a w at h
  refine regS mixed hn hG h [0, 1, 501, 2, 500] (ob [] (op_alloc Tryd.zeroValue25 z25) .nil) fun b1 a w h => ?_
  obtain ⟨r2, hr2, hF⟩ := bind_some hF
  obtain ⟨r3, hr3, hF⟩ := bind_some hF
  obtain ⟨r4, hr4, hF⟩ := bind_some hF
  refine regS mixed hn hG h [2, 500, 501] (ov [0] (op_move q0) <| ov [0] (op_move q0) <| oc [500] [3] Tryd.call79 (ref07_Noughts_ok hr2) ⟨q0, trivial⟩ <| ov [1] (op_move q0) <| oc [500] [] Tryd.call80 (ref07_first_ok hr3) ⟨q0, trivial⟩ <| oc [505, 503, 500] [502] Tryd.call78 (ref07_node_ok hr4) ⟨q0, q1, q2, qi, qi, trivial⟩ <| ou [2, 501] 4 (op_store_w Tryd.sizeOf25 q0 q1 (cells_agg _)) .nil) fun _ a w h => ?_
  refine wp_ret ?_
  obtain rfl := Option.some.inj hF
  exact ⟨.inl rfl, ret1 h Tryd.results25 (r_cell 0 1 rfl rfl Tryd.isAgg25 Tryd.sizeOf25 rfl) [2] [(RLog_e p_0 r4.2)] rfl rfl rfl⟩

def wire_Digest (a_0 : List UInt8) : Option (List UInt8) := some (a_0.take ((32 : Int).toNat - (0 : Int).toNat))
theorem wire_Digest_ok {a_0 : List UInt8} {r : (List UInt8)} (hF : wire_Digest a_0 = some r) : CallOk Tryd.prog KG 123 [(aggVP [bytesCk 32 a_0])] [] (fun _ => []) (strVP r) := by
  refine CallOk.intro 5 Tryd.func123 rfl Tryd.ntmps123 (Nat.le_of_ble_eq_true rfl) ?_
  intro c a w hG hn h
  unfold wire_Digest at hF
  change SatL c [.slot 0 (aggVP [bytesCk 32 a_0])] a w at h
  refine regS mixed hn hG h [502, 501] (ob [0] (op_box q0 (cells_agg _)) <| ov [] (op_assign (opc (sc _ (by decide)))) .nil) fun b1 a w h => ?_
  refine regS mixed hn hG h [500] (ov [0] (op_slice_lb (a := 0) (b := 32) Tryd.underlying25 Tryd.sizeOf5 q0 rfl rfl (by decide)) <| ov [500, 1] (op_str_lsl [] [] 1 Tryd.underlying259 Tryd.underlying5 Tryd.underlying9 q0 rfl rfl (by decide) (by decide)) <| ov [500] (op_assign q0) .nil) fun _ a w h => ?_
  refine wp_ret ?_
  obtain rfl := Option.some.inj hF
  exact ⟨.inl rfl, ret1 h Tryd.results123 (r_tmp 0 rfl) [] [] rfl rfl rfl⟩

def digest_Log_Two (L_0 : Option O_Log) (a_1 : Int) (a_2 : List UInt8) (a_3 : List UInt8) : Option ((List UInt8) × (Option O_Log)) := ((wire_Digest a_2).bind fun r4 => ((wire_Digest a_3).bind fun r5 => ((digest_Log_Of L_0 a_1 [r4, r5]).bind fun r6 => some (r6.1, r6.2))))
theorem digest_Log_Two_ok {p_0 : Value} {L_0 : Option O_Log} {a_1 : Int} {a_2 : List UInt8} {a_3 : List UInt8} {r : (List UInt8) × (Option O_Log)} (hF : digest_Log_Two L_0 a_1 a_2 a_3 = some r) : CallOk Tryd.prog KG 183 [(eqVP p_0), (intVP .u8 a_1), (aggVP [bytesCk 32 a_2]), (aggVP [bytesCk 32 a_3])] [(Log_e p_0 L_0)] (fun _ => [Log_e p_0 r.2]) (aggVP [bytesCk 32 r.1]) := by
  refine CallOk.intro 17 Tryd.func183 rfl Tryd.ntmps183 (Nat.le_of_ble_eq_true rfl) ?_
  intro c a w hG hn h
  unfold digest_Log_Two at hF
  change SatL c [.slot 0 (eqVP p_0), .slot 1 (intVP .u8 a_1), .slot 2 (aggVP [bytesCk 32 a_2]), .slot 3 (aggVP [bytesCk 32 a_3]), .res (Log_e p_0 L_0)] a w at h
  refine regS mixed hn hG h [0, 1, 505, 503, 501, 4, 504, 502, 500] (ob [2] (op_box q0 (cells_agg _)) <| ob [3] (op_box q0 (cells_agg _)) <| ob [] (op_alloc Tryd.zeroValue25 z25) .nil) fun b1 a w h => ?_
  obtain ⟨r4, hr4, hF⟩ := bind_some hF
  obtain ⟨r5, hr5, hF⟩ := bind_some hF
  obtain ⟨r6, hr6, hF⟩ := bind_some hF
  refine regS mixed hn hG h [4, 500, 501] (ov [0] (op_move q0) <| ov [1] (op_move q0) <| ov [2, 6] (op_load_w 1 Tryd.isAgg25 Tryd.sizeOf25 q0) <| oc [500] [] Tryd.call123 (wire_Digest_ok hr4) ⟨q0, trivial⟩ <| ov [3, 7] (op_load_w 1 Tryd.isAgg25 Tryd.sizeOf25 q0) <| oc [500] [] Tryd.call123 (wire_Digest_ok hr5) ⟨q0, trivial⟩ <| ov [502, 500] (op_lit (xs := [.tmp 12, .tmp 14]) (ys := [r4, r5]) _ rfl Tryd.underlying151 Tryd.sizeOf9 Tryd.zeroValue9 rfl rfl (by decide) (by decide) ⟨⟨_, q0, (cells_one (one_str _))⟩, ⟨_, q1, (cells_one (one_str _))⟩, trivial⟩ lens_strC) <| oc [506, 505, 500] [5] Tryd.call135 (digest_Log_Of_ok hr6) ⟨q0, q1, q2, trivial⟩ <| ou [4, 501] 8 (op_store_w Tryd.sizeOf25 q0 q1 (cells_agg _)) .nil) fun _ a w h => ?_
  refine wp_ret ?_
  obtain rfl := Option.some.inj hF
  exact ⟨.inl rfl, ret1 h Tryd.results183 (r_cell 0 1 rfl rfl Tryd.isAgg25 Tryd.sizeOf25 rfl) [2] [(Log_e p_0 r6.2)] rfl rfl rfl⟩

def merkle_node (L_0 : Option O_Log) (a_1 : List UInt8) (a_2 : List UInt8) : Option ((List UInt8) × (Option O_Log)) := ((digest_Log_Two L_0 6 a_1 a_2).bind fun r4 => some (r4.1, r4.2))
theorem merkle_node_ok {p_0 : Value} {L_0 : Option O_Log} {a_1 : List UInt8} {a_2 : List UInt8} {r : (List UInt8) × (Option O_Log)} (hF : merkle_node L_0 a_1 a_2 = some r) : CallOk Tryd.prog KG 140 [(eqVP p_0), (aggVP [bytesCk 32 a_1]), (aggVP [bytesCk 32 a_2])] [(Log_e p_0 L_0)] (fun _ => [Log_e p_0 r.2]) (aggVP [bytesCk 32 r.1]) := by
  refine CallOk.intro 11 Tryd.func140 rfl Tryd.ntmps140 (Nat.le_of_ble_eq_true rfl) ?_
  intro c a w hG hn h
  unfold merkle_node at hF
  change SatL c [.slot 0 (eqVP p_0), .slot 1 (aggVP [bytesCk 32 a_1]), .slot 2 (aggVP [bytesCk 32 a_2]), .res (Log_e p_0 L_0)] a w at h
  refine regS mixed hn hG h [0, 505, 503, 501, 3, 504, 502, 500] (ob [1] (op_box q0 (cells_agg _)) <| ob [2] (op_box q0 (cells_agg _)) <| ob [] (op_alloc Tryd.zeroValue25 z25) .nil) fun b1 a w h => ?_
  obtain ⟨r4, hr4, hF⟩ := bind_some hF
  refine regS mixed hn hG h [3, 500, 501] (ov [0] (op_move q0) <| ov [1, 5] (op_load_w 1 Tryd.isAgg25 Tryd.sizeOf25 q0) <| ov [2, 6] (op_load_w 1 Tryd.isAgg25 Tryd.sizeOf25 q0) <| oc [502, 501, 500] [4] Tryd.call183 (digest_Log_Two_ok hr4) ⟨q0, qi, q1, q2, trivial⟩ <| ou [3, 501] 7 (op_store_w Tryd.sizeOf25 q0 q1 (cells_agg _)) .nil) fun _ a w h => ?_
  refine wp_ret ?_
  obtain rfl := Option.some.inj hF
  exact ⟨.inl rfl, ret1 h Tryd.results140 (r_cell 0 1 rfl rfl Tryd.isAgg25 Tryd.sizeOf25 rfl) [2] [(Log_e p_0 r4.2)] rfl rfl rfl⟩

def merkle_Climb.j1 (x11 : Int) (x31 : List UInt8) (x32 : Option O_Log) : Option (Flow ((List UInt8) × (Option O_Log)) (Int × (Option O_Log) × (List UInt8))) := some (.cont (IntKind.wrap .i64 (x11 + 1), x32, x31))
def merkle_Climb.b1 (a_2 : Int) (a_3 : List (List UInt8)) (x11 : Int) (x12 : Option O_Log) (x13 : List UInt8) : Option (Flow ((List UInt8) × (Option O_Log)) (Int × (Option O_Log) × (List UInt8))) := (if (decide (x11 < (((a_3.take (if (32 : Int) < (a_3.length : Int) then (32 : Int) else (a_3.length : Int)).toNat).drop (0 : Int).toNat).length : Int))) = true then (if (0 : Int) ≤ x11 ∧ x11 < ((a_3.take (if (32 : Int) < (a_3.length : Int) then (32 : Int) else (a_3.length : Int)).toNat).drop (0 : Int).toNat).length then (if (0 : Int) ≤ x11 then (if (decide ((bits .and .u32 (shr .u32 a_2 x11) 1) = (1 : Int))) = true then ((merkle_node x12 (((a_3.take (if (32 : Int) < (a_3.length : Int) then (32 : Int) else (a_3.length : Int)).toNat).drop (0 : Int).toNat).getD x11.toNat default) x13).bind fun r34 => merkle_Climb.j1 x11 r34.1 r34.2) else ((merkle_node x12 x13 (((a_3.take (if (32 : Int) < (a_3.length : Int) then (32 : Int) else (a_3.length : Int)).toNat).drop (0 : Int).toNat).getD x11.toNat default)).bind fun r35 => merkle_Climb.j1 x11 r35.1 r35.2)) else none) else none) else some (.brk (x11, x12, x13)))
def merkle_Climb (L_0 : Option O_Log) (a_1 : List UInt8) (a_2 : Int) (a_3 : List (List UInt8)) : Option ((List UInt8) × (Option O_Log)) := (if (0 : Int) ≤ 0 ∧ (0 : Int) ≤ (if (32 : Int) < (a_3.length : Int) then (32 : Int) else (a_3.length : Int)) ∧ (if (32 : Int) < (a_3.length : Int) then (32 : Int) else (a_3.length : Int)) ≤ a_3.length then ((loopN (fun s : Int × (Option O_Log) × (List UInt8) => merkle_Climb.b1 a_2 a_3 s.1 s.2.1 s.2.2) (((((a_3.take (if (32 : Int) < (a_3.length : Int) then (32 : Int) else (a_3.length : Int)).toNat).drop (0 : Int).toNat).length : Int) - 0 : Int).toNat + 2) (0, L_0, a_1)).bind fun cr => match cr with | .ret r => some r | .next (y40, y41, y42) => some (y42, y41)) else none)
theorem merkle_Climb_ok {p_0 : Value} {L_0 : Option O_Log} {a_1 : List UInt8} {a_2 : Int} {a_3 : List (List UInt8)} {r : (List UInt8) × (Option O_Log)} (hF : merkle_Climb L_0 a_1 a_2 a_3 = some r) : CallOk Tryd.prog KG 82 [(eqVP p_0), (aggVP [bytesCk 32 a_1]), (intVP .u32 a_2), (slVP (dC 32) a_3)] [(Log_e p_0 L_0)] (fun _ => [Log_e p_0 r.2]) (aggVP [bytesCk 32 r.1]) := by
  refine CallOk.intro 37 Tryd.func82 rfl Tryd.ntmps82 (Nat.le_of_ble_eq_true rfl) ?_
  intro c a w hG hn h
  unfold merkle_Climb at hF
  change SatL c [.slot 0 (eqVP p_0), .slot 1 (aggVP [bytesCk 32 a_1]), .slot 2 (intVP .u32 a_2), .slot 3 (slVP (dC 32) a_3), .res (Log_e p_0 L_0)] a w at h
  refine regS mixed hn hG h [0, 2, 3, 503, 501, 4, 502, 500] (ob [1] (op_box q0 (cells_agg _)) <| ob [] (op_alloc Tryd.zeroValue25 z25) .nil) fun b1 a w h => ?_
  refine wp_seq ?_
  obtain ⟨hv3, hF⟩ := ite_some hF
  refine regS mixed hn hG h [0, 1, 3, 4, 502, 501, 500, 5, 6, 7] (ov [2] (op_move q0) <| ov [2] (op_move q0) <| ov [500] (op_len_sl Tryd.underlying26 q0) <| ov [500] (op_min q0 qi) <| ov [503, 500] (op_slice_sl (a := 0) (b := (if (32 : Int) < (a_3.length : Int) then (32 : Int) else (a_3.length : Int))) Tryd.underlying26 Tryd.sizeOf25 (lens_dC 32) q0 rfl ⟨_, q1⟩ hv3) <| ov [500] (op_len_sl Tryd.underlying26 q0) <| ov [] (op_move qi) .nil) fun _ a w h => ?_
  refine wp_block ?_
  obtain ⟨cr36, hl37, hF⟩ := bind_some hF
  refine wp_mono (wp_loopN (R := (List UInt8) × (Option O_Log)) (S := Int × (Option O_Log) × (List UInt8)) (fun s a w => SatL c [.slot 0 (eqVP p_0), .slot 2 (intVP .u32 a_2), .slot 5 (lpVP (b1 0) 0), .slot 8 (lpVP (b1 1) 0), .slot 15 (slVP (dC 32) ((a_3.take (if (32 : Int) < (a_3.length : Int) then (32 : Int) else (a_3.length : Int)).toNat).drop (0 : Int).toNat)), .slot 16 (intVP .i64 (((a_3.take (if (32 : Int) < (a_3.length : Int) then (32 : Int) else (a_3.length : Int)).toNat).drop (0 : Int).toNat).length : Int)), .slot 17 (intVP .i64 s.1), .res (Log_e p_0 s.2.1), .res (lb (b1 0) 25 [bytesCk 32 s.2.2]), .res (lb (b1 1) 25 [bytesCk 32 (List.replicate 32 0)])] a w) (fun res e a w => match res with | .next s => e = .exit 0 ∧ SatL c [.slot 5 (lpVP (b1 0) 0), .slot 8 (lpVP (b1 1) 0), .res (Log_e p_0 s.2.1), .res (lb (b1 0) 25 [bytesCk 32 s.2.2]), .res (lb (b1 1) 25 [bytesCk 32 (List.replicate 32 0)])] a w | .ret r => e = .ret ∧ RetOk Tryd.prog Tryd.f82 c (aggVP [bytesCk 32 r.1]) (fun _ => [Log_e p_0 r.2]) a w) ?_ _ (0, L_0, a_1) _ _ _ (h.sub [0, 1, 2, 3, 4, 5, 6, 7, 8, 9] (by rfl)) hl37) ?_
  · clear hl37 hF h
    intro s a w o h hF
    obtain ⟨x11, x12, x13⟩ := s
    change merkle_Climb.b1 a_2 a_3 x11 x12 x13 = some o at hF
    unfold merkle_Climb.b1 at hF
    change SatL c [.slot 0 (eqVP p_0), .slot 2 (intVP .u32 a_2), .slot 5 (lpVP (b1 0) 0), .slot 8 (lpVP (b1 1) 0), .slot 15 (slVP (dC 32) ((a_3.take (if (32 : Int) < (a_3.length : Int) then (32 : Int) else (a_3.length : Int)).toNat).drop (0 : Int).toNat)), .slot 16 (intVP .i64 (((a_3.take (if (32 : Int) < (a_3.length : Int) then (32 : Int) else (a_3.length : Int)).toNat).drop (0 : Int).toNat).length : Int)), .slot 17 (intVP .i64 x11), .res (Log_e p_0 x12), .res (lb (b1 0) 25 [bytesCk 32 x13]), .res (lb (b1 1) 25 [bytesCk 32 (List.replicate 32 0)])] a w at h
    refine regS mixed hn hG h [0, 1, 2, 3, 4, 5, 6, 500, 7, 8, 9] (ov [6, 5] (op_bin bin_lss q0 q1) .nil) fun _ a w h => ?_
    refine wp_seq ?_
    refine cnd h hF 7 [0, 1, 2, 3, 4, 5, 6, 8, 9, 10] [0, 1, 2, 3, 4, 5, 6, 8, 9, 10] (fun hb25 hF h => ?_) (fun hb25 hF h => ?_)
    · refine wp_skip ?_
      show Code.wp Tryd.prog _ _ a w
      refine wp_seq ?_
      refine wp_block ?_
      obtain ⟨hv26, hF⟩ := ite_some hF
      refine regS mixed hn hG h [0, 1, 2, 3, 501, 503, 4, 5, 6, 7, 8, 9, 500] (ov [6] (op_move q0) <| ov [4, 6] (op_indexAddr_sl Tryd.underlying26 Tryd.sizeOf25 (lens_dC 32) q0 q1 hv26) <| ov [500] (op_load_pp [bytesCk 32 (((a_3.take (if (32 : Int) < (a_3.length : Int) then (32 : Int) else (a_3.length : Int)).toNat).drop (0 : Int).toNat).getD x11.toNat default)] [] Tryd.isAgg25 Tryd.sizeOf25 q0 rfl) <| ob [] (op_alloc Tryd.zeroValue25 z25) <| ov [504] (op_assign q0) <| og [502, 503] [501] [.res 3 100000 (fun v1_ _ => (lb (v1_) 25 [bytesCk 32 (((a_3.take (if (32 : Int) < (a_3.length : Int) then (32 : Int) else (a_3.length : Int)).toNat).drop (0 : Int).toNat).getD x11.toNat default)]))] (GOk.plain (op_store_w Tryd.sizeOf25 q0 q1 (cells_agg _)) rfl) .nil) fun b27 a w h => ?_
      obtain ⟨hv28, hF⟩ := ite_some hF
      refine regS mixed hn hG h [0, 1, 2, 3, 5, 6, 7, 8, 500, 9, 10, 11, 12] (ov [1] (op_move q0) <| ov [4] (op_move q0) <| ov [501, 500] (op_bin (bin_shr hv28) q0 q1) <| ov [500] (op_bin bin_and q0 qi) <| ov [500] (op_bin bin_eql q0 qi) .nil) fun _ a w h => ?_
      refine wp_cut (fun a w => ∃ (x31 : List UInt8), ∃ (x32 : Option O_Log), merkle_Climb.j1 x11 x31 x32 = some o ∧ SatL c [.slot 0 (eqVP p_0), .slot 2 (intVP .u32 a_2), .slot 5 (lpVP (b1 0) 0), .slot 8 (lpVP (b1 1) 0), .slot 15 (slVP (dC 32) ((a_3.take (if (32 : Int) < (a_3.length : Int) then (32 : Int) else (a_3.length : Int)).toNat).drop (0 : Int).toNat)), .slot 16 (intVP .i64 (((a_3.take (if (32 : Int) < (a_3.length : Int) then (32 : Int) else (a_3.length : Int)).toNat).drop (0 : Int).toNat).length : Int)), .slot 17 (intVP .i64 x11), .res (lb (b1 0) 25 [bytesCk 32 x31]), .res (lb (b1 1) 25 [bytesCk 32 (List.replicate 32 0)]), .res (Log_e p_0 x32)] a w) ?_ ?_
      · refine cnd h hF 8 [0, 1, 2, 3, 4, 5, 6, 7, 9, 10, 11, 12] [0, 1, 2, 3, 4, 5, 6, 7, 9, 10, 11, 12] (fun hb33 hF h => ?_) (fun hb33 hF h => ?_)
        · obtain ⟨r34, hr34, hF⟩ := bind_some hF
          refine reg mixed hn hG h [0, 1, 2, 3, 5, 6, 7, 500, 10, 501] (ov [0] (op_move q0) <| ov [4, 11] (op_load_w 1 Tryd.isAgg25 Tryd.sizeOf25 q0) <| ov [2, 9] (op_load_w 1 Tryd.isAgg25 Tryd.sizeOf25 q0) <| oc [502, 501, 500] [8] Tryd.call140 (merkle_node_ok hr34) ⟨q0, q1, q2, trivial⟩ <| ou [2, 501] 9 (op_store_w Tryd.sizeOf25 q0 q1 (cells_agg _)) .nil) fun _ a w h => ?_
          exact ⟨r34.1, r34.2, hF, h.sub [0, 1, 2, 3, 4, 5, 6, 7, 8, 9] (by rfl)⟩
        · obtain ⟨r35, hr35, hF⟩ := bind_some hF
          refine reg mixed hn hG h [0, 1, 2, 3, 5, 6, 7, 500, 10, 501] (ov [0] (op_move q0) <| ov [2, 9] (op_load_w 1 Tryd.isAgg25 Tryd.sizeOf25 q0) <| ov [4, 11] (op_load_w 1 Tryd.isAgg25 Tryd.sizeOf25 q0) <| oc [502, 501, 500] [8] Tryd.call140 (merkle_node_ok hr35) ⟨q0, q1, q2, trivial⟩ <| ou [2, 501] 9 (op_store_w Tryd.sizeOf25 q0 q1 (cells_agg _)) .nil) fun _ a w h => ?_
          exact ⟨r35.1, r35.2, hF, h.sub [0, 1, 2, 3, 4, 5, 6, 7, 8, 9] (by rfl)⟩
      · clear h hF
        rintro a w ⟨x31, x32, hF, h⟩
        unfold merkle_Climb.j1 at hF
        show Code.wp Tryd.prog _ _ a w
        refine reg mixed hn hG h [0, 1, 2, 3, 4, 5, 500, 7, 8, 9] (ov [6] (op_bin bin_add q0 qi) <| od [500] 6 (op_move q0) .nil) fun _ a w h => ?_
        obtain rfl := Option.some.inj hF
        exact ⟨rfl, h.sub [0, 1, 2, 3, 4, 5, 6, 9, 7, 8] (by rfl)⟩
    · refine wp_exit ?_
      obtain rfl := Option.some.inj hF
      exact ⟨exit_ne _, rfl, h.sub [2, 3, 7, 8, 9] (by rfl)⟩
  · clear hl37
    intro e a w hq
    cases cr36 with
    | ret r38 =>
      obtain ⟨rfl, hq⟩ := hq
      obtain rfl := Option.some.inj hF
      exact ⟨.inl rfl, hq⟩
    | next s39 =>
      obtain ⟨y40, y41, y42⟩ := s39
      obtain ⟨rfl, h⟩ := hq
      change SatL c [.slot 5 (lpVP (b1 0) 0), .slot 8 (lpVP (b1 1) 0), .res (Log_e p_0 y41), .res (lb (b1 0) 25 [bytesCk 32 y42]), .res (lb (b1 1) 25 [bytesCk 32 (List.replicate 32 0)])] a w at h
      refine inBlock_at ?_
      show Code.wp Tryd.prog _ _ a w
      refine regS mixed hn hG h [1, 2, 500] (ov [0, 3] (op_load_w 1 Tryd.isAgg25 Tryd.sizeOf25 q0) <| ou [1, 500] 4 (op_store_w Tryd.sizeOf25 q0 q1 (cells_agg _)) .nil) fun _ a w h => ?_
      refine wp_ret ?_
      obtain rfl := Option.some.inj hF
      exact ⟨.inl rfl, ret1 h Tryd.results82 (r_cell 0 2 rfl rfl Tryd.isAgg25 Tryd.sizeOf25 rfl) [1] [(Log_e p_0 y41)] rfl rfl rfl⟩

def replica_Prove.j3 (r7 : (List UInt8) × (Option O_Log)) (x23 : S_api_Replica) : Option (S_api_Replica × Int × (Option O_Log)) := some (x23, 0, r7.2)
def replica_Prove.j2 (a_1 : S_api_Replica) (a_3 : List UInt8) (r7 : (List UInt8) × (Option O_Log)) (r11 : Int) (x16 : Bool) : Option (S_api_Replica × Int × (Option O_Log)) := (if x16 = true then some (a_1, 6, r7.2) else ((slices_Clone_api_State a_1.f_States).bind fun r18 => (if (decide ((0 : Int) ≤ r11)) = true then (if (0 : Int) ≤ r11 ∧ r11 < r18.length then replica_Prove.j3 r7 (S_api_Replica.mk a_1.f_Chain a_1.f_Here a_1.f_Updater a_1.f_Watchers a_1.f_Window a_1.f_Committed a_1.f_Roots (r18.set r11.toNat (S_api_State.mk a_3 1 r7.1)) a_1.f_Failed a_1.f_Cut) else none) else (if r18.length + [(S_api_State.mk a_3 1 r7.1)].length ≤ mxl ∧ (r18.length + [(S_api_State.mk a_3 1 r7.1)].length) * 72 ≤ 140737488355328 then replica_Prove.j3 r7 (S_api_Replica.mk a_1.f_Chain a_1.f_Here a_1.f_Updater a_1.f_Watchers a_1.f_Window a_1.f_Committed a_1.f_Roots (r18 ++ [(S_api_State.mk a_3 1 r7.1)]) a_1.f_Failed a_1.f_Cut) else none))))
def replica_Prove.j1 (a_1 : S_api_Replica) (a_3 : List UInt8) (r7 : (List UInt8) × (Option O_Log)) (r11 : Int) (x14 : Bool) : Option (S_api_Replica × Int × (Option O_Log)) := (if x14 = true then some (a_1, 37, r7.2) else (if (decide (r11 < (0 : Int))) = true then replica_Prove.j2 a_1 a_3 r7 r11 (decide ((4096 : Int) ≤ (a_1.f_States.length : Int))) else replica_Prove.j2 a_1 a_3 r7 r11 false))
def replica_Prove (L_0 : Option O_Log) (a_1 : S_api_Replica) (a_2 : Int) (a_3 : List UInt8) (a_4 : Int) (a_5 : List (List UInt8)) : Option (S_api_Replica × Int × (Option O_Log)) := ((replica_open a_1).bind fun r4 => (if (!decide (r4 = (0 : Int))) = true then some (a_1, r4, L_0) else (if (!decide ((a_5.length : Int) = (32 : Int))) = true then some (a_1, 35, L_0) else ((merkle_Climb L_0 a_3 a_4 a_5).bind fun r7 => ((replica_Counts a_1 r7.1 a_2).bind fun r9 => (if (!decide (r9 = (0 : Int))) = true then some (a_1, r9, r7.2) else ((replica_state a_1 a_3).bind fun r11 => (if (decide ((0 : Int) ≤ r11)) = true then (if (0 : Int) ≤ r11 ∧ r11 < a_1.f_States.length then replica_Prove.j1 a_1 a_3 r7 r11 (decide (((a_1.f_States.getD r11.toNat default).f_Status) = (2 : Int))) else none) else replica_Prove.j1 a_1 a_3 r7 r11 false))))))))
theorem replica_Prove_ok {p_0 : Value} {L_0 : Option O_Log} {a_1 : S_api_Replica} {a_2 : Int} {a_3 : List UInt8} {a_4 : Int} {a_5 : List (List UInt8)} {r : S_api_Replica × Int × (Option O_Log)} (hF : replica_Prove L_0 a_1 a_2 a_3 a_4 a_5 = some r) : CallOk Tryd.prog KG 26 [(eqVP p_0), (aggVP [one (intVP .u32 a_1.f_Chain), one (intVP .u32 a_1.f_Here), bytesCk 32 a_1.f_Updater, one (slVP (dC 32) a_1.f_Watchers), one (intVP .u64 a_1.f_Window), bytesCk 32 a_1.f_Committed, one (slVP S_api_Timed.ck a_1.f_Roots), one (slVP S_api_State.ck a_1.f_States), one (boolVP a_1.f_Failed), one (boolVP a_1.f_Cut)]), (intVP .u64 a_2), (aggVP [bytesCk 32 a_3]), (intVP .u32 a_4), (slVP (dC 32) a_5)] [(Log_e p_0 L_0)] (fun _ => [Log_e p_0 r.2.2]) (tupVP [(aggVP [one (intVP .u32 r.1.f_Chain), one (intVP .u32 r.1.f_Here), bytesCk 32 r.1.f_Updater, one (slVP (dC 32) r.1.f_Watchers), one (intVP .u64 r.1.f_Window), bytesCk 32 r.1.f_Committed, one (slVP S_api_Timed.ck r.1.f_Roots), one (slVP S_api_State.ck r.1.f_States), one (boolVP r.1.f_Failed), one (boolVP r.1.f_Cut)]), (intVP .i64 r.2.1)]) := by
  refine CallOk.intro 89 Tryd.func26 rfl Tryd.ntmps26 (Nat.le_of_ble_eq_true rfl) ?_
  intro c a w hG hn h
  unfold replica_Prove at hF
  change SatL c [.slot 0 (eqVP p_0), .slot 1 (aggVP [one (intVP .u32 a_1.f_Chain), one (intVP .u32 a_1.f_Here), bytesCk 32 a_1.f_Updater, one (slVP (dC 32) a_1.f_Watchers), one (intVP .u64 a_1.f_Window), bytesCk 32 a_1.f_Committed, one (slVP S_api_Timed.ck a_1.f_Roots), one (slVP S_api_State.ck a_1.f_States), one (boolVP a_1.f_Failed), one (boolVP a_1.f_Cut)]), .slot 2 (intVP .u64 a_2), .slot 3 (aggVP [bytesCk 32 a_3]), .slot 4 (intVP .u32 a_4), .slot 5 (slVP (dC 32) a_5), .res (Log_e p_0 L_0)] a w at h
  refine regS mixed hn hG h [0, 2, 4, 5, 506, 504, 502, 6, 505, 503, 501] (ob [1] (op_box q0 (cells_agg _)) <| ob [3] (op_box q0 (cells_agg _)) <| ob [] (op_alloc Tryd.zeroValue31 z31) <| ov [] (op_assign qi) .nil) fun b1 a w h => ?_
  refine wp_seq ?_
  obtain ⟨r4, hr4, hF⟩ := bind_some hF
  refine regS mixed hn hG h [0, 1, 2, 3, 4, 5, 6, 500, 7, 8, 9, 10] (ov [4, 8] (op_load_w 1 Tryd.isAgg31 Tryd.sizeOf31 q0) <| oc [500] [] Tryd.call81 (replica_open_ok hr4) ⟨q0, trivial⟩ <| ov [500] (op_assign q0) .nil) fun _ a w h => ?_
  refine regS mixed hn hG h [0, 1, 2, 3, 4, 5, 6, 7, 500, 8, 9, 10, 11] (ov [7] (op_move q0) <| ov [500] (op_bin bin_neq q0 qi) .nil) fun _ a w h => ?_
  refine cnd h hF 8 [4, 6, 7, 9, 10, 12] [0, 1, 2, 3, 4, 5, 6, 9, 10, 11, 12] (fun hb5 hF h => ?_) (fun hb5 hF h => ?_)
  · refine regS mixed hn hG h [1, 500, 3, 501] (ov [0, 4] (op_load_w 1 Tryd.isAgg31 Tryd.sizeOf31 q0) <| ov [2] (op_move q0) <| ou [1, 501] 5 (op_store_w Tryd.sizeOf31 q0 q1 (cells_agg _)) <| ov [501] (op_assign q0) .nil) fun _ a w h => ?_
    refine wp_ret ?_
    obtain rfl := Option.some.inj hF
    exact ⟨.inl rfl, retn h (rs := [.cell 12 31, .tmp 13]) (Vs := [(aggVP [one (intVP .u32 a_1.f_Chain), one (intVP .u32 a_1.f_Here), bytesCk 32 a_1.f_Updater, one (slVP (dC 32) a_1.f_Watchers), one (intVP .u64 a_1.f_Window), bytesCk 32 a_1.f_Committed, one (slVP S_api_Timed.ck a_1.f_Roots), one (slVP S_api_State.ck a_1.f_States), one (boolVP a_1.f_Failed), one (boolVP a_1.f_Cut)]), (intVP .i64 r4)]) Tryd.results26 (by decide) ⟨(r_cell 0 3 rfl rfl Tryd.isAgg31 Tryd.sizeOf31 rfl), (r_tmp 1 rfl), trivial⟩ [2] [(Log_e p_0 L_0)] rfl rfl rfl⟩
  · refine wp_skip ?_
    show Code.wp Tryd.prog _ _ a w
    refine wp_seq ?_
    refine regS mixed hn hG h [0, 1, 2, 3, 4, 5, 6, 500, 7, 8, 9, 10] (ov [3] (op_move q0) <| ov [500] (op_len_sl Tryd.underlying26 q0) <| ov [500] (op_bin bin_neq q0 qi) .nil) fun _ a w h => ?_
    refine cnd h hF 7 [4, 6, 8, 9, 11] [0, 1, 2, 3, 4, 5, 6, 8, 9, 10, 11] (fun hb6 hF h => ?_) (fun hb6 hF h => ?_)
    · refine regS mixed hn hG h [1, 500, 2, 501] (ov [0, 3] (op_load_w 1 Tryd.isAgg31 Tryd.sizeOf31 q0) <| ou [1, 500] 4 (op_store_w Tryd.sizeOf31 q0 q1 (cells_agg _)) <| ov [] (op_assign qi) .nil) fun _ a w h => ?_
      refine wp_ret ?_
      obtain rfl := Option.some.inj hF
      exact ⟨.inl rfl, retn h (rs := [.cell 12 31, .tmp 13]) (Vs := [(aggVP [one (intVP .u32 a_1.f_Chain), one (intVP .u32 a_1.f_Here), bytesCk 32 a_1.f_Updater, one (slVP (dC 32) a_1.f_Watchers), one (intVP .u64 a_1.f_Window), bytesCk 32 a_1.f_Committed, one (slVP S_api_Timed.ck a_1.f_Roots), one (slVP S_api_State.ck a_1.f_States), one (boolVP a_1.f_Failed), one (boolVP a_1.f_Cut)]), (intVP .i64 35)]) Tryd.results26 (by decide) ⟨(r_cell 0 3 rfl rfl Tryd.isAgg31 Tryd.sizeOf31 rfl), (r_tmp 1 rfl), trivial⟩ [2] [(Log_e p_0 L_0)] rfl rfl rfl⟩
    · refine wp_skip ?_
      show Code.wp Tryd.prog _ _ a w
      obtain ⟨r7, hr7, hF⟩ := bind_some hF
      refine regS mixed hn hG h [1, 4, 5, 6, 502, 8, 9, 10, 503, 500] (ov [0] (op_move q0) <| ov [5, 9] (op_load_w 1 Tryd.isAgg25 Tryd.sizeOf25 q0) <| ov [2] (op_move q0) <| ov [3] (op_move q0) <| oc [503, 502, 501, 500] [7] Tryd.call82 (merkle_Climb_ok hr7) ⟨q0, q1, q2, q3, trivial⟩ <| ob [] (op_alloc Tryd.zeroValue25 z25) <| og [501, 503] [500] [.res 5 100000 (fun v1_ _ => (lb (v1_) 25 [bytesCk 32 r7.1]))] (GOk.plain (op_store_w Tryd.sizeOf25 q0 q1 (cells_agg _)) rfl) .nil) fun b8 a w h => ?_
      refine wp_seq ?_
      obtain ⟨r9, hr9, hF⟩ := bind_some hF
      refine regS mixed hn hG h [1, 2, 3, 4, 500, 5, 6, 7, 8, 9] (ov [1, 5] (op_load_w 1 Tryd.isAgg31 Tryd.sizeOf31 q0) <| ov [4, 9] (op_load_w 1 Tryd.isAgg25 Tryd.sizeOf25 q0) <| ov [0] (op_move q0) <| oc [502, 501, 500] [] Tryd.call83 (replica_Counts_ok hr9) ⟨q0, q1, q2, trivial⟩ <| ov [500] (op_assign q0) .nil) fun _ a w h => ?_
      refine regS mixed hn hG h [0, 1, 2, 3, 4, 500, 5, 6, 7, 8, 9] (ov [4] (op_move q0) <| ov [500] (op_bin bin_neq q0 qi) .nil) fun _ a w h => ?_
      refine cnd h hF 5 [0, 2, 4, 6, 8, 9] [0, 1, 2, 3, 6, 7, 8, 9, 10] (fun hb10 hF h => ?_) (fun hb10 hF h => ?_)
      · refine regS mixed hn hG h [1, 500, 501, 5] (ov [0, 3] (op_load_w 1 Tryd.isAgg31 Tryd.sizeOf31 q0) <| ov [2] (op_move q0) <| ou [1, 501] 4 (op_store_w Tryd.sizeOf31 q0 q1 (cells_agg _)) <| ov [501] (op_assign q0) .nil) fun _ a w h => ?_
        refine wp_ret ?_
        obtain rfl := Option.some.inj hF
        exact ⟨.inl rfl, retn h (rs := [.cell 12 31, .tmp 13]) (Vs := [(aggVP [one (intVP .u32 a_1.f_Chain), one (intVP .u32 a_1.f_Here), bytesCk 32 a_1.f_Updater, one (slVP (dC 32) a_1.f_Watchers), one (intVP .u64 a_1.f_Window), bytesCk 32 a_1.f_Committed, one (slVP S_api_Timed.ck a_1.f_Roots), one (slVP S_api_State.ck a_1.f_States), one (boolVP a_1.f_Failed), one (boolVP a_1.f_Cut)]), (intVP .i64 r9)]) Tryd.results26 (by decide) ⟨(r_cell 0 2 rfl rfl Tryd.isAgg31 Tryd.sizeOf31 rfl), (r_tmp 1 rfl), trivial⟩ [3] [(Log_e p_0 r7.2)] rfl rfl rfl⟩
      · refine wp_skip ?_
        show Code.wp Tryd.prog _ _ a w
        obtain ⟨r11, hr11, hF⟩ := bind_some hF
        refine regS mixed hn hG h [0, 1, 2, 3, 500, 4, 5, 6, 7, 8] (ov [0, 4] (op_load_w 1 Tryd.isAgg31 Tryd.sizeOf31 q0) <| ov [1, 5] (op_load_w 1 Tryd.isAgg25 Tryd.sizeOf25 q0) <| oc [501, 500] [] Tryd.call84 (replica_state_ok hr11) ⟨q0, q1, trivial⟩ <| ov [500] (op_assign q0) .nil) fun _ a w h => ?_
        refine regS mixed hn hG h [0, 2, 4, 502, 5, 7, 8, 500] (ov [1, 6] (op_load_w 1 Tryd.isAgg25 Tryd.sizeOf25 q0) <| ov [3, 9] (op_load_w 1 Tryd.isAgg25 Tryd.sizeOf25 q0) <| ov [501, 500] (op_build [(0, .tmp 45), (1, .const (.int .i64 1)), (2, .tmp 46)] rfl bu71 z71 ⟨[], [bytesCk 32 (List.replicate 32 0)], [one (intVP .i64 (0 : Int)), bytesCk 32 (List.replicate 32 0)], [bytesCk 32 a_3], _, rfl, rfl, rfl, q0, (cells_agg _), ⟨[bytesCk 32 a_3], [one (intVP .i64 (0 : Int))], [bytesCk 32 (List.replicate 32 0)], [one (intVP .i64 1)], _, rfl, rfl, rfl, qi, (cells_one (one_int _ _)), ⟨[bytesCk 32 a_3, one (intVP .i64 1)], [bytesCk 32 (List.replicate 32 0)], [], [bytesCk 32 r7.1], _, rfl, rfl, rfl, q1, (cells_agg _), rfl⟩⟩⟩) <| ob [] (op_alloc Tryd.zeroValue71 z71) <| og [501, 502] [500] [.res 3 100000 (fun v1_ _ => (lb (v1_) 71 [bytesCk 32 a_3, one (intVP .i64 1), bytesCk 32 r7.1]))] (GOk.plain (op_store_w Tryd.sizeOf71 q0 q1 (cells_agg _)) rfl) .nil) fun b12 a w h => ?_
        refine wp_seq ?_
        refine wp_block ?_
        refine wp_seq ?_
        refine wp_cut (fun a w => ∃ (x14 : Bool), replica_Prove.j1 a_1 a_3 r7 r11 x14 = some r ∧ SatL c [.slot 7 (lpVP (b1 0) 0), .slot 12 (lpVP (b1 2) 0), .slot 17 (intVP .i64 r11), .slot 18 (lpVP (b12 3) 0), .slot 48 (boolVP x14), .res (lb (b1 0) 31 [one (intVP .u32 a_1.f_Chain), one (intVP .u32 a_1.f_Here), bytesCk 32 a_1.f_Updater, one (slVP (dC 32) a_1.f_Watchers), one (intVP .u64 a_1.f_Window), bytesCk 32 a_1.f_Committed, one (slVP S_api_Timed.ck a_1.f_Roots), one (slVP S_api_State.ck a_1.f_States), one (boolVP a_1.f_Failed), one (boolVP a_1.f_Cut)]), .res (lb (b1 2) 31 [one (intVP .u32 ((S_api_Replica.mk (0 : Int) (0 : Int) (List.replicate 32 0) [] (0 : Int) (List.replicate 32 0) [] [] false false).f_Chain)), one (intVP .u32 ((S_api_Replica.mk (0 : Int) (0 : Int) (List.replicate 32 0) [] (0 : Int) (List.replicate 32 0) [] [] false false).f_Here)), bytesCk 32 ((S_api_Replica.mk (0 : Int) (0 : Int) (List.replicate 32 0) [] (0 : Int) (List.replicate 32 0) [] [] false false).f_Updater), one (slVP (dC 32) ((S_api_Replica.mk (0 : Int) (0 : Int) (List.replicate 32 0) [] (0 : Int) (List.replicate 32 0) [] [] false false).f_Watchers)), one (intVP .u64 ((S_api_Replica.mk (0 : Int) (0 : Int) (List.replicate 32 0) [] (0 : Int) (List.replicate 32 0) [] [] false false).f_Window)), bytesCk 32 ((S_api_Replica.mk (0 : Int) (0 : Int) (List.replicate 32 0) [] (0 : Int) (List.replicate 32 0) [] [] false false).f_Committed), one (slVP S_api_Timed.ck ((S_api_Replica.mk (0 : Int) (0 : Int) (List.replicate 32 0) [] (0 : Int) (List.replicate 32 0) [] [] false false).f_Roots)), one (slVP S_api_State.ck ((S_api_Replica.mk (0 : Int) (0 : Int) (List.replicate 32 0) [] (0 : Int) (List.replicate 32 0) [] [] false false).f_States)), one (boolVP ((S_api_Replica.mk (0 : Int) (0 : Int) (List.replicate 32 0) [] (0 : Int) (List.replicate 32 0) [] [] false false).f_Failed)), one (boolVP ((S_api_Replica.mk (0 : Int) (0 : Int) (List.replicate 32 0) [] (0 : Int) (List.replicate 32 0) [] [] false false).f_Cut))]), .res (Log_e p_0 r7.2), .res (lb (b12 3) 71 [bytesCk 32 a_3, one (intVP .i64 1), bytesCk 32 r7.1])] a w) ?_ ?_
        · rcases Bool.eq_false_or_eq_true (decide ((0 : Int) ≤ r11)) with hb29 | hb29
          · replace hF := tt_of hb29 hF
            obtain ⟨hv13, hF⟩ := ite_some hF
            refine reg mixed hn hG h [0, 1, 2, 3, 500, 4, 5, 6, 7] (ov [2] (op_move q0) <| ov [500] (op_bin bin_geq q0 qi) <| ov [500] (op_move q0) <| oe [500, 0] [] (GOk.on_eq hb29 rfl rfl rfl (op_fieldAddr_lbm (p := (b1 0)) (n := 1) 0 69 Tryd.underlying31 rfl Tryd.sizeOf29 (by decide) q0 rfl)) <| oe [501, 500, 4] [] (GOk.on_eq hb29 rfl rfl rfl (op_load_lb1 [one (intVP .u32 a_1.f_Chain), one (intVP .u32 a_1.f_Here), bytesCk 32 a_1.f_Updater, one (slVP (dC 32) a_1.f_Watchers), one (intVP .u64 a_1.f_Window), bytesCk 32 a_1.f_Committed, one (slVP S_api_Timed.ck a_1.f_Roots)] [one (boolVP a_1.f_Failed), one (boolVP a_1.f_Cut)] 1 Tryd.isAgg29 q0 rfl rfl)) <| oe [502, 2] [] (GOk.on_eq hb29 rfl rfl rfl (op_move q0)) <| oe [503, 501, 500] [] (GOk.on_eq hb29 rfl rfl rfl (op_indexAddr_sl Tryd.underlying29 Tryd.sizeOf71 S_api_State.lens q0 q1 hv13)) <| oe [504, 500] [] (GOk.on_eq hb29 rfl rfl rfl (op_fieldAddr_pp (n := 1) [bytesCk 32 ((a_1.f_States.getD r11.toNat default).f_Leaf)] _ Tryd.underlying71 rfl Tryd.sizeOf3 (by decide) q0 rfl)) <| oe [505, 500] [] (GOk.on_eq hb29 rfl rfl rfl (op_load_pp1 [bytesCk 32 ((a_1.f_States.getD r11.toNat default).f_Root)] Tryd.isAgg3 q0)) <| oe [506, 500] [] (GOk.on_eq hb29 rfl rfl rfl (op_bin bin_eql q0 qi)) <| ov [507, 500] (op_pick_t hb29 q0 q1) <| ov [500] (op_assign q0) .nil) fun _ a w h => ?_
            exact ⟨decide (((a_1.f_States.getD r11.toNat default).f_Status) = (2 : Int)), hF, h.sub [0, 1, 2, 3, 4, 5, 6, 7, 8] (by rfl)⟩
          · replace hF := ff_of hb29 hF
            refine reg mixed hn hG h [0, 1, 2, 3, 500, 4, 5, 6, 7] (ov [2] (op_move q0) <| ov [500] (op_bin bin_geq q0 qi) <| ov [500] (op_move q0) <| oe [500] [] (GOk.off_v (want := true) hb29 rfl rfl rfl rfl) <| oe [501] [] (GOk.off_v (want := true) hb29 rfl rfl rfl rfl) <| oe [502] [] (GOk.off_v (want := true) hb29 rfl rfl rfl rfl) <| oe [503] [] (GOk.off_v (want := true) hb29 rfl rfl rfl rfl) <| oe [504] [] (GOk.off_v (want := true) hb29 rfl rfl rfl rfl) <| oe [505] [] (GOk.off_v (want := true) hb29 rfl rfl rfl rfl) <| oe [506] [] (GOk.off_v (want := true) hb29 rfl rfl rfl rfl) <| ov [507] (op_pick_f hb29 q0 qb) <| ov [500] (op_assign q0) .nil) fun _ a w h => ?_
            exact ⟨false, hF, h.sub [0, 1, 2, 3, 4, 5, 6, 7, 8] (by rfl)⟩
        · clear h hF
          rintro a w ⟨x14, hF, h⟩
          unfold replica_Prove.j1 at hF
          show Code.wp Tryd.prog _ _ a w
          refine cnd h hF 4 [0, 1, 5, 6, 7] [0, 1, 2, 3, 5, 6, 7, 8] (fun hb15 hF h => ?_) (fun hb15 hF h => ?_)
          · refine regS mixed hn hG h [1, 500, 501, 4] (ov [0, 2] (op_load_w 1 Tryd.isAgg31 Tryd.sizeOf31 q0) <| ou [1, 500] 3 (op_store_w Tryd.sizeOf31 q0 q1 (cells_agg _)) <| ov [] (op_assign qi) .nil) fun _ a w h => ?_
            refine wp_ret ?_
            obtain rfl := Option.some.inj hF
            exact ⟨.inl rfl, retn h (rs := [.cell 12 31, .tmp 13]) (Vs := [(aggVP [one (intVP .u32 a_1.f_Chain), one (intVP .u32 a_1.f_Here), bytesCk 32 a_1.f_Updater, one (slVP (dC 32) a_1.f_Watchers), one (intVP .u64 a_1.f_Window), bytesCk 32 a_1.f_Committed, one (slVP S_api_Timed.ck a_1.f_Roots), one (slVP S_api_State.ck a_1.f_States), one (boolVP a_1.f_Failed), one (boolVP a_1.f_Cut)]), (intVP .i64 37)]) Tryd.results26 (by decide) ⟨(r_cell 0 2 rfl rfl Tryd.isAgg31 Tryd.sizeOf31 rfl), (r_tmp 1 rfl), trivial⟩ [3] [(Log_e p_0 r7.2)] rfl rfl rfl⟩
          · refine wp_seq ?_
            refine wp_cut (fun a w => ∃ (x16 : Bool), replica_Prove.j2 a_1 a_3 r7 r11 x16 = some r ∧ SatL c [.slot 7 (lpVP (b1 0) 0), .slot 12 (lpVP (b1 2) 0), .slot 17 (intVP .i64 r11), .slot 18 (lpVP (b12 3) 0), .slot 61 (boolVP x16), .res (lb (b1 0) 31 [one (intVP .u32 a_1.f_Chain), one (intVP .u32 a_1.f_Here), bytesCk 32 a_1.f_Updater, one (slVP (dC 32) a_1.f_Watchers), one (intVP .u64 a_1.f_Window), bytesCk 32 a_1.f_Committed, one (slVP S_api_Timed.ck a_1.f_Roots), one (slVP S_api_State.ck a_1.f_States), one (boolVP a_1.f_Failed), one (boolVP a_1.f_Cut)]), .res (lb (b1 2) 31 [one (intVP .u32 ((S_api_Replica.mk (0 : Int) (0 : Int) (List.replicate 32 0) [] (0 : Int) (List.replicate 32 0) [] [] false false).f_Chain)), one (intVP .u32 ((S_api_Replica.mk (0 : Int) (0 : Int) (List.replicate 32 0) [] (0 : Int) (List.replicate 32 0) [] [] false false).f_Here)), bytesCk 32 ((S_api_Replica.mk (0 : Int) (0 : Int) (List.replicate 32 0) [] (0 : Int) (List.replicate 32 0) [] [] false false).f_Updater), one (slVP (dC 32) ((S_api_Replica.mk (0 : Int) (0 : Int) (List.replicate 32 0) [] (0 : Int) (List.replicate 32 0) [] [] false false).f_Watchers)), one (intVP .u64 ((S_api_Replica.mk (0 : Int) (0 : Int) (List.replicate 32 0) [] (0 : Int) (List.replicate 32 0) [] [] false false).f_Window)), bytesCk 32 ((S_api_Replica.mk (0 : Int) (0 : Int) (List.replicate 32 0) [] (0 : Int) (List.replicate 32 0) [] [] false false).f_Committed), one (slVP S_api_Timed.ck ((S_api_Replica.mk (0 : Int) (0 : Int) (List.replicate 32 0) [] (0 : Int) (List.replicate 32 0) [] [] false false).f_Roots)), one (slVP S_api_State.ck ((S_api_Replica.mk (0 : Int) (0 : Int) (List.replicate 32 0) [] (0 : Int) (List.replicate 32 0) [] [] false false).f_States)), one (boolVP ((S_api_Replica.mk (0 : Int) (0 : Int) (List.replicate 32 0) [] (0 : Int) (List.replicate 32 0) [] [] false false).f_Failed)), one (boolVP ((S_api_Replica.mk (0 : Int) (0 : Int) (List.replicate 32 0) [] (0 : Int) (List.replicate 32 0) [] [] false false).f_Cut))]), .res (Log_e p_0 r7.2), .res (lb (b12 3) 71 [bytesCk 32 a_3, one (intVP .i64 1), bytesCk 32 r7.1])] a w) ?_ ?_
            · rcases Bool.eq_false_or_eq_true (decide (r11 < (0 : Int))) with hb28 | hb28
              · replace hF := tt_of hb28 hF
                refine reg mixed hn hG h [0, 1, 2, 3, 500, 4, 5, 6, 7] (ov [2] (op_move q0) <| ov [500] (op_bin bin_lss q0 qi) <| ov [500] (op_move q0) <| oe [500, 0] [] (GOk.on_eq hb28 rfl rfl rfl (op_fieldAddr_lbm (p := (b1 0)) (n := 1) 0 69 Tryd.underlying31 rfl Tryd.sizeOf29 (by decide) q0 rfl)) <| oe [501, 500, 4] [] (GOk.on_eq hb28 rfl rfl rfl (op_load_lb1 [one (intVP .u32 a_1.f_Chain), one (intVP .u32 a_1.f_Here), bytesCk 32 a_1.f_Updater, one (slVP (dC 32) a_1.f_Watchers), one (intVP .u64 a_1.f_Window), bytesCk 32 a_1.f_Committed, one (slVP S_api_Timed.ck a_1.f_Roots)] [one (boolVP a_1.f_Failed), one (boolVP a_1.f_Cut)] 1 Tryd.isAgg29 q0 rfl rfl)) <| oe [502, 500] [] (GOk.on_eq hb28 rfl rfl rfl (op_len_sl Tryd.underlying29 q0)) <| oe [503, 500] [] (GOk.on_eq hb28 rfl rfl rfl (op_bin bin_geq q0 qi)) <| ov [504, 500] (op_pick_t hb28 q0 q1) <| ov [500] (op_assign q0) .nil) fun _ a w h => ?_
                exact ⟨decide ((4096 : Int) ≤ (a_1.f_States.length : Int)), hF, h.sub [0, 1, 2, 3, 4, 5, 6, 7, 8] (by rfl)⟩
              · replace hF := ff_of hb28 hF
                refine reg mixed hn hG h [0, 1, 2, 3, 500, 4, 5, 6, 7] (ov [2] (op_move q0) <| ov [500] (op_bin bin_lss q0 qi) <| ov [500] (op_move q0) <| oe [500] [] (GOk.off_v (want := true) hb28 rfl rfl rfl rfl) <| oe [501] [] (GOk.off_v (want := true) hb28 rfl rfl rfl rfl) <| oe [502] [] (GOk.off_v (want := true) hb28 rfl rfl rfl rfl) <| oe [503] [] (GOk.off_v (want := true) hb28 rfl rfl rfl rfl) <| ov [504] (op_pick_f hb28 q0 qb) <| ov [500] (op_assign q0) .nil) fun _ a w h => ?_
                exact ⟨false, hF, h.sub [0, 1, 2, 3, 4, 5, 6, 7, 8] (by rfl)⟩
            · clear h hF
              rintro a w ⟨x16, hF, h⟩
              unfold replica_Prove.j2 at hF
              show Code.wp Tryd.prog _ _ a w
              refine cnd h hF 4 [0, 1, 5, 6, 7] [0, 1, 2, 3, 5, 6, 7, 8] (fun hb17 hF h => ?_) (fun hb17 hF h => ?_)
              · refine regS mixed hn hG h [1, 500, 501, 4] (ov [0, 2] (op_load_w 1 Tryd.isAgg31 Tryd.sizeOf31 q0) <| ou [1, 500] 3 (op_store_w Tryd.sizeOf31 q0 q1 (cells_agg _)) <| ov [] (op_assign qi) .nil) fun _ a w h => ?_
                refine wp_ret ?_
                obtain rfl := Option.some.inj hF
                exact ⟨.inl rfl, retn h (rs := [.cell 12 31, .tmp 13]) (Vs := [(aggVP [one (intVP .u32 a_1.f_Chain), one (intVP .u32 a_1.f_Here), bytesCk 32 a_1.f_Updater, one (slVP (dC 32) a_1.f_Watchers), one (intVP .u64 a_1.f_Window), bytesCk 32 a_1.f_Committed, one (slVP S_api_Timed.ck a_1.f_Roots), one (slVP S_api_State.ck a_1.f_States), one (boolVP a_1.f_Failed), one (boolVP a_1.f_Cut)]), (intVP .i64 6)]) Tryd.results26 (by decide) ⟨(r_cell 0 2 rfl rfl Tryd.isAgg31 Tryd.sizeOf31 rfl), (r_tmp 1 rfl), trivial⟩ [3] [(Log_e p_0 r7.2)] rfl rfl rfl⟩
              · refine wp_skip ?_
                show Code.wp Tryd.prog _ _ a w
                obtain ⟨r18, hr18, hF⟩ := bind_some hF
                refine regS mixed hn hG h [0, 1, 2, 3, 500, 5, 6, 7, 502] (ov [0] (op_fieldAddr_lbm (p := (b1 0)) (n := 1) 0 69 Tryd.underlying31 rfl Tryd.sizeOf29 (by decide) q0 rfl) <| ov [500, 4] (op_load_lb1 [one (intVP .u32 a_1.f_Chain), one (intVP .u32 a_1.f_Here), bytesCk 32 a_1.f_Updater, one (slVP (dC 32) a_1.f_Watchers), one (intVP .u64 a_1.f_Window), bytesCk 32 a_1.f_Committed, one (slVP S_api_Timed.ck a_1.f_Roots)] [one (boolVP a_1.f_Failed), one (boolVP a_1.f_Cut)] 1 Tryd.isAgg29 q0 rfl rfl) <| og [500] [] [.slot 73 2 100000 (fun v1_ _ => (eqVP v1_)), .res 2 100000 (fun v1_ _ => (own (v1_) 71 65 S_api_State.ck r18))] (GOk.plain (op_callv Tryd.call85 (slices_Clone_api_State_own hr18) ⟨q0, trivial⟩) rfl) <| ov [0] (op_fieldAddr_lbm (p := (b1 0)) (n := 1) 0 69 Tryd.underlying31 rfl Tryd.sizeOf29 (by decide) q0 rfl) <| og [500, 502, 501] [4] [.res 2 100000 (fun v1_ _ => (lb (b1 0) 31 [one (intVP .u32 a_1.f_Chain), one (intVP .u32 a_1.f_Here), bytesCk 32 a_1.f_Updater, one (slVP (dC 32) a_1.f_Watchers), one (intVP .u64 a_1.f_Window), bytesCk 32 a_1.f_Committed, one (slVP S_api_Timed.ck a_1.f_Roots), one (eqVP (v1_)), one (boolVP a_1.f_Failed), one (boolVP a_1.f_Cut)]))] (fun {β} => (GOk.plain (op_store_lb [one (intVP .u32 a_1.f_Chain), one (intVP .u32 a_1.f_Here), bytesCk 32 a_1.f_Updater, one (slVP (dC 32) a_1.f_Watchers), one (intVP .u64 a_1.f_Window), bytesCk 32 a_1.f_Committed, one (slVP S_api_Timed.ck a_1.f_Roots)] [one (slVP S_api_State.ck a_1.f_States)] [one (boolVP a_1.f_Failed), one (boolVP a_1.f_Cut)] [one (eqVP ((β 2)))] Tryd.sizeOf29 q0 (opone 1 2 rfl rfl own_one) (cells_h _) rfl rfl rfl) rfl)) .nil) fun b19 a w h => ?_
                refine wp_seq ?_
                refine regS mixed hn hG h [0, 1, 2, 3, 500, 4, 5, 6, 7, 8] (ov [2] (op_move q0) <| ov [500] (op_bin bin_geq q0 qi) .nil) fun _ a w h => ?_
                refine wp_cut (fun a w => ∃ (x23 : S_api_Replica), replica_Prove.j3 r7 x23 = some r ∧ SatL c [.slot 7 (lpVP (b1 0) 0), .slot 12 (lpVP (b1 2) 0), .res (lb (b1 0) 31 [one (intVP .u32 x23.f_Chain), one (intVP .u32 x23.f_Here), bytesCk 32 x23.f_Updater, one (slVP (dC 32) x23.f_Watchers), one (intVP .u64 x23.f_Window), bytesCk 32 x23.f_Committed, one (slVP S_api_Timed.ck x23.f_Roots), one (slVP S_api_State.ck x23.f_States), one (boolVP x23.f_Failed), one (boolVP x23.f_Cut)]), .res (lb (b1 2) 31 [one (intVP .u32 ((S_api_Replica.mk (0 : Int) (0 : Int) (List.replicate 32 0) [] (0 : Int) (List.replicate 32 0) [] [] false false).f_Chain)), one (intVP .u32 ((S_api_Replica.mk (0 : Int) (0 : Int) (List.replicate 32 0) [] (0 : Int) (List.replicate 32 0) [] [] false false).f_Here)), bytesCk 32 ((S_api_Replica.mk (0 : Int) (0 : Int) (List.replicate 32 0) [] (0 : Int) (List.replicate 32 0) [] [] false false).f_Updater), one (slVP (dC 32) ((S_api_Replica.mk (0 : Int) (0 : Int) (List.replicate 32 0) [] (0 : Int) (List.replicate 32 0) [] [] false false).f_Watchers)), one (intVP .u64 ((S_api_Replica.mk (0 : Int) (0 : Int) (List.replicate 32 0) [] (0 : Int) (List.replicate 32 0) [] [] false false).f_Window)), bytesCk 32 ((S_api_Replica.mk (0 : Int) (0 : Int) (List.replicate 32 0) [] (0 : Int) (List.replicate 32 0) [] [] false false).f_Committed), one (slVP S_api_Timed.ck ((S_api_Replica.mk (0 : Int) (0 : Int) (List.replicate 32 0) [] (0 : Int) (List.replicate 32 0) [] [] false false).f_Roots)), one (slVP S_api_State.ck ((S_api_Replica.mk (0 : Int) (0 : Int) (List.replicate 32 0) [] (0 : Int) (List.replicate 32 0) [] [] false false).f_States)), one (boolVP ((S_api_Replica.mk (0 : Int) (0 : Int) (List.replicate 32 0) [] (0 : Int) (List.replicate 32 0) [] [] false false).f_Failed)), one (boolVP ((S_api_Replica.mk (0 : Int) (0 : Int) (List.replicate 32 0) [] (0 : Int) (List.replicate 32 0) [] [] false false).f_Cut))]), .res (Log_e p_0 r7.2)] a w) ?_ ?_
                · refine cnd h hF 4 [0, 1, 2, 3, 5, 6, 7, 8, 9] [0, 1, 3, 5, 6, 7, 8, 9] (fun hb24 hF h => ?_) (fun hb24 hF h => ?_)
                  · obtain ⟨hv25, hF⟩ := ite_some hF
                    refine reg mixed hn hG h [0, 1, 4, 5, 6, 500] (ov [0] (op_fieldAddr_lbm (p := (b1 0)) (n := 1) 0 69 Tryd.underlying31 rfl Tryd.sizeOf29 (by decide) q0 rfl) <| ov [500, 4] (op_load_lb1 [one (intVP .u32 a_1.f_Chain), one (intVP .u32 a_1.f_Here), bytesCk 32 a_1.f_Updater, one (slVP (dC 32) a_1.f_Watchers), one (intVP .u64 a_1.f_Window), bytesCk 32 a_1.f_Committed, one (slVP S_api_Timed.ck a_1.f_Roots)] [one (boolVP a_1.f_Failed), one (boolVP a_1.f_Cut)] 1 Tryd.isAgg29 q0 rfl rfl) <| ov [2] (op_move q0) <| ov [3, 7] (op_load_w 1 Tryd.isAgg71 Tryd.sizeOf71 q0) <| ov [502, 8, 501] (op_indexAddr_own 0 1 Tryd.underlying29 Tryd.sizeOf71 rfl rfl q2 hv25) <| ou [500, 501] 8 (op_store_own (i := r11) (c := S_api_State.ck) (z := (S_api_State.mk a_3 1 r7.1)) S_api_State.lens [] [bytesCk 32 ((r18.getD r11.toNat default).f_Leaf), one (intVP .i64 ((r18.getD r11.toNat default).f_Status)), bytesCk 32 ((r18.getD r11.toNat default).f_Root)] [] [bytesCk 32 a_3, one (intVP .i64 1), bytesCk 32 r7.1] Tryd.sizeOf71 q0 q1 (cells_agg _) rfl rfl rfl rfl rfl hv25) .nil) fun _ a w h => ?_
                    replace h := h.ownacc 5 rfl
                    change SatL c [.slot 7 (lpVP (b1 0) 0), .slot 12 (lpVP (b1 2) 0), .res (lb (b1 0) 31 [one (intVP .u32 a_1.f_Chain), one (intVP .u32 a_1.f_Here), bytesCk 32 a_1.f_Updater, one (slVP (dC 32) a_1.f_Watchers), one (intVP .u64 a_1.f_Window), bytesCk 32 a_1.f_Committed, one (slVP S_api_Timed.ck a_1.f_Roots), one (eqVP (b19 2)), one (boolVP a_1.f_Failed), one (boolVP a_1.f_Cut)]), .res (lb (b1 2) 31 [one (intVP .u32 ((S_api_Replica.mk (0 : Int) (0 : Int) (List.replicate 32 0) [] (0 : Int) (List.replicate 32 0) [] [] false false).f_Chain)), one (intVP .u32 ((S_api_Replica.mk (0 : Int) (0 : Int) (List.replicate 32 0) [] (0 : Int) (List.replicate 32 0) [] [] false false).f_Here)), bytesCk 32 ((S_api_Replica.mk (0 : Int) (0 : Int) (List.replicate 32 0) [] (0 : Int) (List.replicate 32 0) [] [] false false).f_Updater), one (slVP (dC 32) ((S_api_Replica.mk (0 : Int) (0 : Int) (List.replicate 32 0) [] (0 : Int) (List.replicate 32 0) [] [] false false).f_Watchers)), one (intVP .u64 ((S_api_Replica.mk (0 : Int) (0 : Int) (List.replicate 32 0) [] (0 : Int) (List.replicate 32 0) [] [] false false).f_Window)), bytesCk 32 ((S_api_Replica.mk (0 : Int) (0 : Int) (List.replicate 32 0) [] (0 : Int) (List.replicate 32 0) [] [] false false).f_Committed), one (slVP S_api_Timed.ck ((S_api_Replica.mk (0 : Int) (0 : Int) (List.replicate 32 0) [] (0 : Int) (List.replicate 32 0) [] [] false false).f_Roots)), one (slVP S_api_State.ck ((S_api_Replica.mk (0 : Int) (0 : Int) (List.replicate 32 0) [] (0 : Int) (List.replicate 32 0) [] [] false false).f_States)), one (boolVP ((S_api_Replica.mk (0 : Int) (0 : Int) (List.replicate 32 0) [] (0 : Int) (List.replicate 32 0) [] [] false false).f_Failed)), one (boolVP ((S_api_Replica.mk (0 : Int) (0 : Int) (List.replicate 32 0) [] (0 : Int) (List.replicate 32 0) [] [] false false).f_Cut))]), .res (Log_e p_0 r7.2), .res (acc (b19 2) 71 65 S_api_State.ck (r18.set r11.toNat (S_api_State.mk a_3 1 r7.1)))] a w at h
                    replace h := h.unsep 2 5 rfl rfl (by decide)
                    replace h := h.conv 2 rfl (settle (pre := [one (intVP .u32 a_1.f_Chain), one (intVP .u32 a_1.f_Here), bytesCk 32 a_1.f_Updater, one (slVP (dC 32) a_1.f_Watchers), one (intVP .u64 a_1.f_Window), bytesCk 32 a_1.f_Committed, one (slVP S_api_Timed.ck a_1.f_Roots)]) (post := [one (boolVP a_1.f_Failed), one (boolVP a_1.f_Cut)]))
                    replace h := h.sep 2 rfl
                    replace h := h.sub [0, 1, 2, 3, 4] (by rfl)
                    change SatL c [.slot 7 (lpVP (b1 0) 0), .slot 12 (lpVP (b1 2) 0), .res (lb (b1 0) 31 [one (intVP .u32 a_1.f_Chain), one (intVP .u32 a_1.f_Here), bytesCk 32 a_1.f_Updater, one (slVP (dC 32) a_1.f_Watchers), one (intVP .u64 a_1.f_Window), bytesCk 32 a_1.f_Committed, one (slVP S_api_Timed.ck a_1.f_Roots), one (slVP S_api_State.ck (r18.set r11.toNat (S_api_State.mk a_3 1 r7.1))), one (boolVP a_1.f_Failed), one (boolVP a_1.f_Cut)]), .res (lb (b1 2) 31 [one (intVP .u32 ((S_api_Replica.mk (0 : Int) (0 : Int) (List.replicate 32 0) [] (0 : Int) (List.replicate 32 0) [] [] false false).f_Chain)), one (intVP .u32 ((S_api_Replica.mk (0 : Int) (0 : Int) (List.replicate 32 0) [] (0 : Int) (List.replicate 32 0) [] [] false false).f_Here)), bytesCk 32 ((S_api_Replica.mk (0 : Int) (0 : Int) (List.replicate 32 0) [] (0 : Int) (List.replicate 32 0) [] [] false false).f_Updater), one (slVP (dC 32) ((S_api_Replica.mk (0 : Int) (0 : Int) (List.replicate 32 0) [] (0 : Int) (List.replicate 32 0) [] [] false false).f_Watchers)), one (intVP .u64 ((S_api_Replica.mk (0 : Int) (0 : Int) (List.replicate 32 0) [] (0 : Int) (List.replicate 32 0) [] [] false false).f_Window)), bytesCk 32 ((S_api_Replica.mk (0 : Int) (0 : Int) (List.replicate 32 0) [] (0 : Int) (List.replicate 32 0) [] [] false false).f_Committed), one (slVP S_api_Timed.ck ((S_api_Replica.mk (0 : Int) (0 : Int) (List.replicate 32 0) [] (0 : Int) (List.replicate 32 0) [] [] false false).f_Roots)), one (slVP S_api_State.ck ((S_api_Replica.mk (0 : Int) (0 : Int) (List.replicate 32 0) [] (0 : Int) (List.replicate 32 0) [] [] false false).f_States)), one (boolVP ((S_api_Replica.mk (0 : Int) (0 : Int) (List.replicate 32 0) [] (0 : Int) (List.replicate 32 0) [] [] false false).f_Failed)), one (boolVP ((S_api_Replica.mk (0 : Int) (0 : Int) (List.replicate 32 0) [] (0 : Int) (List.replicate 32 0) [] [] false false).f_Cut))]), .res (Log_e p_0 r7.2)] a w at h
                    exact ⟨(S_api_Replica.mk a_1.f_Chain a_1.f_Here a_1.f_Updater a_1.f_Watchers a_1.f_Window a_1.f_Committed a_1.f_Roots (r18.set r11.toNat (S_api_State.mk a_3 1 r7.1)) a_1.f_Failed a_1.f_Cut), hF, h.sub [0, 1, 2, 3, 4] (by rfl)⟩
                  · obtain ⟨hv26, hF⟩ := ite_some hF
                    refine reg mixed hn hG h [0, 1, 500, 4, 5, 502] (ov [0] (op_fieldAddr_lbm (p := (b1 0)) (n := 1) 0 69 Tryd.underlying31 rfl Tryd.sizeOf29 (by decide) q0 rfl) <| ov [500, 3] (op_load_lb1 [one (intVP .u32 a_1.f_Chain), one (intVP .u32 a_1.f_Here), bytesCk 32 a_1.f_Updater, one (slVP (dC 32) a_1.f_Watchers), one (intVP .u64 a_1.f_Window), bytesCk 32 a_1.f_Committed, one (slVP S_api_Timed.ck a_1.f_Roots)] [one (boolVP a_1.f_Failed), one (boolVP a_1.f_Cut)] 1 Tryd.isAgg29 q0 rfl rfl) <| ov [2, 6] (op_load_w 1 Tryd.isAgg71 Tryd.sizeOf71 q0) <| ov [500] (op_lit (xs := [.tmp 84]) (ys := [(S_api_State.mk a_3 1 r7.1)]) _ rfl Tryd.underlying29 Tryd.sizeOf71 Tryd.zeroValue71 rfl rfl (by decide) (by decide) ⟨⟨_, q0, (cells_agg _)⟩, trivial⟩ S_api_State.lens) <| og [502, 500] [7] [.slot 86 4 100000 (fun v1_ _ => (eqVP v1_)), .res 4 100000 (fun v1_ _ => (own (v1_) 71 65 S_api_State.ck (r18 ++ [(S_api_State.mk a_3 1 r7.1)])))] (GOk.plain (op_ownAppend (i := Tryd.t71) Tryd.underlying29 Tryd.type71 rfl S_api_State.lens (by decide) rfl q0 q1 hv26) rfl) <| ov [0] (op_fieldAddr_lbm (p := (b1 0)) (n := 1) 0 69 Tryd.underlying31 rfl Tryd.sizeOf29 (by decide) q0 rfl) <| og [500, 502, 501] [3] [.res 4 100000 (fun v1_ _ => (lb (b1 0) 31 [one (intVP .u32 a_1.f_Chain), one (intVP .u32 a_1.f_Here), bytesCk 32 a_1.f_Updater, one (slVP (dC 32) a_1.f_Watchers), one (intVP .u64 a_1.f_Window), bytesCk 32 a_1.f_Committed, one (slVP S_api_Timed.ck a_1.f_Roots), one (eqVP (v1_)), one (boolVP a_1.f_Failed), one (boolVP a_1.f_Cut)]))] (fun {β} => (GOk.plain (op_store_lb [one (intVP .u32 a_1.f_Chain), one (intVP .u32 a_1.f_Here), bytesCk 32 a_1.f_Updater, one (slVP (dC 32) a_1.f_Watchers), one (intVP .u64 a_1.f_Window), bytesCk 32 a_1.f_Committed, one (slVP S_api_Timed.ck a_1.f_Roots)] [one (eqVP (b19 2))] [one (boolVP a_1.f_Failed), one (boolVP a_1.f_Cut)] [one (eqVP ((β 4)))] Tryd.sizeOf29 q0 (opone 1 2 rfl rfl own_one) (cells_h _) rfl rfl rfl) rfl)) .nil) fun b27 a w h => ?_
                    replace h := h.ownacc 5 rfl
                    change SatL c [.slot 7 (lpVP (b1 0) 0), .slot 12 (lpVP (b1 2) 0), .res (lb (b1 0) 31 [one (intVP .u32 a_1.f_Chain), one (intVP .u32 a_1.f_Here), bytesCk 32 a_1.f_Updater, one (slVP (dC 32) a_1.f_Watchers), one (intVP .u64 a_1.f_Window), bytesCk 32 a_1.f_Committed, one (slVP S_api_Timed.ck a_1.f_Roots), one (eqVP (b27 4)), one (boolVP a_1.f_Failed), one (boolVP a_1.f_Cut)]), .res (lb (b1 2) 31 [one (intVP .u32 ((S_api_Replica.mk (0 : Int) (0 : Int) (List.replicate 32 0) [] (0 : Int) (List.replicate 32 0) [] [] false false).f_Chain)), one (intVP .u32 ((S_api_Replica.mk (0 : Int) (0 : Int) (List.replicate 32 0) [] (0 : Int) (List.replicate 32 0) [] [] false false).f_Here)), bytesCk 32 ((S_api_Replica.mk (0 : Int) (0 : Int) (List.replicate 32 0) [] (0 : Int) (List.replicate 32 0) [] [] false false).f_Updater), one (slVP (dC 32) ((S_api_Replica.mk (0 : Int) (0 : Int) (List.replicate 32 0) [] (0 : Int) (List.replicate 32 0) [] [] false false).f_Watchers)), one (intVP .u64 ((S_api_Replica.mk (0 : Int) (0 : Int) (List.replicate 32 0) [] (0 : Int) (List.replicate 32 0) [] [] false false).f_Window)), bytesCk 32 ((S_api_Replica.mk (0 : Int) (0 : Int) (List.replicate 32 0) [] (0 : Int) (List.replicate 32 0) [] [] false false).f_Committed), one (slVP S_api_Timed.ck ((S_api_Replica.mk (0 : Int) (0 : Int) (List.replicate 32 0) [] (0 : Int) (List.replicate 32 0) [] [] false false).f_Roots)), one (slVP S_api_State.ck ((S_api_Replica.mk (0 : Int) (0 : Int) (List.replicate 32 0) [] (0 : Int) (List.replicate 32 0) [] [] false false).f_States)), one (boolVP ((S_api_Replica.mk (0 : Int) (0 : Int) (List.replicate 32 0) [] (0 : Int) (List.replicate 32 0) [] [] false false).f_Failed)), one (boolVP ((S_api_Replica.mk (0 : Int) (0 : Int) (List.replicate 32 0) [] (0 : Int) (List.replicate 32 0) [] [] false false).f_Cut))]), .res (Log_e p_0 r7.2), .res (acc (b27 4) 71 65 S_api_State.ck (r18 ++ [(S_api_State.mk a_3 1 r7.1)]))] a w at h
                    replace h := h.unsep 2 5 rfl rfl (by decide)
                    replace h := h.conv 2 rfl (settle (pre := [one (intVP .u32 a_1.f_Chain), one (intVP .u32 a_1.f_Here), bytesCk 32 a_1.f_Updater, one (slVP (dC 32) a_1.f_Watchers), one (intVP .u64 a_1.f_Window), bytesCk 32 a_1.f_Committed, one (slVP S_api_Timed.ck a_1.f_Roots)]) (post := [one (boolVP a_1.f_Failed), one (boolVP a_1.f_Cut)]))
                    replace h := h.sep 2 rfl
                    replace h := h.sub [0, 1, 2, 3, 4] (by rfl)
                    change SatL c [.slot 7 (lpVP (b1 0) 0), .slot 12 (lpVP (b1 2) 0), .res (lb (b1 0) 31 [one (intVP .u32 a_1.f_Chain), one (intVP .u32 a_1.f_Here), bytesCk 32 a_1.f_Updater, one (slVP (dC 32) a_1.f_Watchers), one (intVP .u64 a_1.f_Window), bytesCk 32 a_1.f_Committed, one (slVP S_api_Timed.ck a_1.f_Roots), one (slVP S_api_State.ck (r18 ++ [(S_api_State.mk a_3 1 r7.1)])), one (boolVP a_1.f_Failed), one (boolVP a_1.f_Cut)]), .res (lb (b1 2) 31 [one (intVP .u32 ((S_api_Replica.mk (0 : Int) (0 : Int) (List.replicate 32 0) [] (0 : Int) (List.replicate 32 0) [] [] false false).f_Chain)), one (intVP .u32 ((S_api_Replica.mk (0 : Int) (0 : Int) (List.replicate 32 0) [] (0 : Int) (List.replicate 32 0) [] [] false false).f_Here)), bytesCk 32 ((S_api_Replica.mk (0 : Int) (0 : Int) (List.replicate 32 0) [] (0 : Int) (List.replicate 32 0) [] [] false false).f_Updater), one (slVP (dC 32) ((S_api_Replica.mk (0 : Int) (0 : Int) (List.replicate 32 0) [] (0 : Int) (List.replicate 32 0) [] [] false false).f_Watchers)), one (intVP .u64 ((S_api_Replica.mk (0 : Int) (0 : Int) (List.replicate 32 0) [] (0 : Int) (List.replicate 32 0) [] [] false false).f_Window)), bytesCk 32 ((S_api_Replica.mk (0 : Int) (0 : Int) (List.replicate 32 0) [] (0 : Int) (List.replicate 32 0) [] [] false false).f_Committed), one (slVP S_api_Timed.ck ((S_api_Replica.mk (0 : Int) (0 : Int) (List.replicate 32 0) [] (0 : Int) (List.replicate 32 0) [] [] false false).f_Roots)), one (slVP S_api_State.ck ((S_api_Replica.mk (0 : Int) (0 : Int) (List.replicate 32 0) [] (0 : Int) (List.replicate 32 0) [] [] false false).f_States)), one (boolVP ((S_api_Replica.mk (0 : Int) (0 : Int) (List.replicate 32 0) [] (0 : Int) (List.replicate 32 0) [] [] false false).f_Failed)), one (boolVP ((S_api_Replica.mk (0 : Int) (0 : Int) (List.replicate 32 0) [] (0 : Int) (List.replicate 32 0) [] [] false false).f_Cut))]), .res (Log_e p_0 r7.2)] a w at h
                    exact ⟨(S_api_Replica.mk a_1.f_Chain a_1.f_Here a_1.f_Updater a_1.f_Watchers a_1.f_Window a_1.f_Committed a_1.f_Roots (r18 ++ [(S_api_State.mk a_3 1 r7.1)]) a_1.f_Failed a_1.f_Cut), hF, h.sub [0, 1, 2, 3, 4] (by rfl)⟩
                · clear h hF
                  rintro a w ⟨x23, hF, h⟩
                  unfold replica_Prove.j3 at hF
                  show Code.wp Tryd.prog _ _ a w
                  refine regS mixed hn hG h [1, 500, 501, 4] (ov [0, 2] (op_load_w 1 Tryd.isAgg31 Tryd.sizeOf31 q0) <| ou [1, 500] 3 (op_store_w Tryd.sizeOf31 q0 q1 (cells_agg _)) <| ov [] (op_assign qi) .nil) fun _ a w h => ?_
                  refine wp_ret ?_
                  obtain rfl := Option.some.inj hF
                  exact ⟨.inl rfl, retn h (rs := [.cell 12 31, .tmp 13]) (Vs := [(aggVP [one (intVP .u32 x23.f_Chain), one (intVP .u32 x23.f_Here), bytesCk 32 x23.f_Updater, one (slVP (dC 32) x23.f_Watchers), one (intVP .u64 x23.f_Window), bytesCk 32 x23.f_Committed, one (slVP S_api_Timed.ck x23.f_Roots), one (slVP S_api_State.ck x23.f_States), one (boolVP x23.f_Failed), one (boolVP x23.f_Cut)]), (intVP .i64 0)]) Tryd.results26 (by decide) ⟨(r_cell 0 2 rfl rfl Tryd.isAgg31 Tryd.sizeOf31 rfl), (r_tmp 1 rfl), trivial⟩ [3] [(Log_e p_0 r7.2)] rfl rfl rfl⟩

def ref07_bit.b1 (a_1 : Int) (x2 : Int) (x3 : Int) : Option (Flow Bool (Int × Int)) := (if (decide (x3 < a_1)) = true then some (.cont (IntKind.wrap .u32 (x2.tdiv 2), IntKind.wrap .i64 (x3 + 1))) else some (.brk (x2, x3)))
def ref07_bit (a_0 : Int) (a_1 : Int) : Option Bool := ((loopN (fun s : Int × Int => ref07_bit.b1 a_1 s.1 s.2) ((a_1 - 0 : Int).toNat + 2) (a_0, 0)).bind fun cr => match cr with | .ret r => some r | .next (y12, y13) => some (decide ((y12.tmod 2) = (1 : Int))))
theorem ref07_bit_ok {a_0 : Int} {a_1 : Int} {r : Bool} (hF : ref07_bit a_0 a_1 = some r) : CallOk Tryd.prog KG 86 [(intVP .u32 a_0), (intVP .i64 a_1)] [] (fun _ => []) (boolVP r) := by
  refine CallOk.intro 16 Tryd.func86 rfl Tryd.ntmps86 (Nat.le_of_ble_eq_true rfl) ?_
  intro c a w hG hn h
  unfold ref07_bit at hF
  change SatL c [.slot 0 (intVP .u32 a_0), .slot 1 (intVP .i64 a_1)] a w at h
  refine regS mixed hn hG h [0, 1] (ov [] (op_assign qb) .nil) fun _ a w h => ?_
  refine wp_seq ?_
  refine regS mixed hn hG h [0, 1, 500] (ov [] (op_assign qi) .nil) fun _ a w h => ?_
  refine wp_block ?_
  obtain ⟨cr8, hl9, hF⟩ := bind_some hF
  refine wp_mono (wp_loopN (R := Bool) (S := Int × Int) (fun s a w => SatL c [.slot 0 (intVP .u32 s.1), .slot 1 (intVP .i64 a_1), .slot 5 (intVP .i64 s.2)] a w) (fun res e a w => match res with | .next s => e = .exit 0 ∧ SatL c [.slot 0 (intVP .u32 s.1)] a w | .ret r => e = .ret ∧ RetOk Tryd.prog Tryd.f86 c (boolVP r) (fun _ => []) a w) ?_ _ (a_0, 0) _ _ _ (h.sub [0, 1, 2] (by rfl)) hl9) ?_
  · clear hl9 hF h
    intro s a w o h hF
    obtain ⟨x2, x3⟩ := s
    change ref07_bit.b1 a_1 x2 x3 = some o at hF
    unfold ref07_bit.b1 at hF
    change SatL c [.slot 0 (intVP .u32 x2), .slot 1 (intVP .i64 a_1), .slot 5 (intVP .i64 x3)] a w at h
    refine wp_seq ?_
    refine regS mixed hn hG h [0, 1, 2, 500] (ov [2] (op_move q0) <| ov [1] (op_move q0) <| ov [501, 500] (op_bin bin_lss q0 q1) .nil) fun _ a w h => ?_
    refine cnd h hF 3 [0, 1, 2] [0, 1, 2] (fun hb7 hF h => ?_) (fun hb7 hF h => ?_)
    · refine wp_skip ?_
      show Code.wp Tryd.prog _ _ a w
      refine wp_seq ?_
      refine wp_block ?_
      refine reg mixed hn hG h [500, 1, 2] (ov [0] (op_move q0) <| ov [500] (op_bin (bin_quo (by decide)) q0 qi) <| od [500] 0 (op_assign q0) .nil) fun _ a w h => ?_
      show Code.wp Tryd.prog _ _ a w
      refine reg mixed hn hG h [0, 1, 500] (ov [2] (op_move q0) <| ov [500] (op_bin bin_add q0 qi) <| od [500] 2 (op_assign q0) .nil) fun _ a w h => ?_
      obtain rfl := Option.some.inj hF
      exact ⟨rfl, h.sub [0, 1, 2] (by rfl)⟩
    · refine wp_exit ?_
      obtain rfl := Option.some.inj hF
      exact ⟨exit_ne _, rfl, h.sub [0] (by rfl)⟩
  · clear hl9
    intro e a w hq
    cases cr8 with
    | ret r10 =>
      obtain ⟨rfl, hq⟩ := hq
      obtain rfl := Option.some.inj hF
      exact ⟨.inl rfl, hq⟩
    | next s11 =>
      obtain ⟨y12, y13⟩ := s11
      obtain ⟨rfl, h⟩ := hq
      change SatL c [.slot 0 (intVP .u32 y12)] a w at h
      refine inBlock_at ?_
      show Code.wp Tryd.prog _ _ a w
      refine regS mixed hn hG h [500] (ov [0] (op_move q0) <| ov [500] (op_bin (bin_rem (by decide)) q0 qi) <| ov [500] (op_bin bin_eql q0 qi) <| ov [500] (op_assign q0) .nil) fun _ a w h => ?_
      refine wp_ret ?_
      obtain rfl := Option.some.inj hF
      exact ⟨.inl rfl, ret1 h Tryd.results86 (r_tmp 0 rfl) [] [] rfl rfl rfl⟩

def ref07_Climb.j2 (x12 : Int) (x34 : List UInt8) (x35 : Option O_RLog) : Option (Flow ((List UInt8) × (Option O_RLog)) (Int × (Option O_RLog) × (List UInt8))) := some (.cont (IntKind.wrap .i64 (x12 + 1), x35, x34))
def ref07_Climb.j1 (a_2 : Int) (a_3 : List (List UInt8)) (x12 : Int) (x13 : Option O_RLog) (x14 : List UInt8) (x27 : Bool) : Option (Flow ((List UInt8) × (Option O_RLog)) (Int × (Option O_RLog) × (List UInt8))) := (if x27 = true then ((ref07_bit a_2 x12).bind fun r29 => (if r29 = true then (if (0 : Int) ≤ x12 ∧ x12 < a_3.length then ((ref04_Log_Two x13 6 (a_3.getD x12.toNat default) x14).bind fun r38 => ref07_Climb.j2 x12 r38.1 r38.2) else none) else (if (0 : Int) ≤ x12 ∧ x12 < a_3.length then ((ref04_Log_Two x13 6 x14 (a_3.getD x12.toNat default)).bind fun r40 => ref07_Climb.j2 x12 r40.1 r40.2) else none))) else some (.brk (x12, x13, x14)))
def ref07_Climb.b1 (a_2 : Int) (a_3 : List (List UInt8)) (x12 : Int) (x13 : Option O_RLog) (x14 : List UInt8) : Option (Flow ((List UInt8) × (Option O_RLog)) (Int × (Option O_RLog) × (List UInt8))) := (if (decide (x12 < (a_3.length : Int))) = true then ref07_Climb.j1 a_2 a_3 x12 x13 x14 (decide (x12 < (32 : Int))) else ref07_Climb.j1 a_2 a_3 x12 x13 x14 false)
def ref07_Climb (L_0 : Option O_RLog) (a_1 : List UInt8) (a_2 : Int) (a_3 : List (List UInt8)) : Option ((List UInt8) × (Option O_RLog)) := ((loopN (fun s : Int × (Option O_RLog) × (List UInt8) => ref07_Climb.b1 a_2 a_3 s.1 s.2.1 s.2.2) 100000 (0, L_0, a_1)).bind fun cr => match cr with | .ret r => some r | .next (y46, y47, y48) => some (y48, y47))
theorem ref07_Climb_ok {p_0 : Value} {L_0 : Option O_RLog} {a_1 : List UInt8} {a_2 : Int} {a_3 : List (List UInt8)} {r : (List UInt8) × (Option O_RLog)} (hF : ref07_Climb L_0 a_1 a_2 a_3 = some r) : CallOk Tryd.prog KG 27 [(eqVP p_0), (aggVP [bytesCk 32 a_1]), (intVP .u32 a_2), (slVP (dC 32) a_3)] [(RLog_e p_0 L_0)] (fun _ => [RLog_e p_0 r.2]) (aggVP [bytesCk 32 r.1]) := by
  refine CallOk.intro 38 Tryd.func27 rfl Tryd.ntmps27 (Nat.le_of_ble_eq_true rfl) ?_
  intro c a w hG hn h
  unfold ref07_Climb at hF
  change SatL c [.slot 0 (eqVP p_0), .slot 1 (aggVP [bytesCk 32 a_1]), .slot 2 (intVP .u32 a_2), .slot 3 (slVP (dC 32) a_3), .res (RLog_e p_0 L_0)] a w at h
  refine regS mixed hn hG h [0, 2, 3, 503, 501, 4, 502, 500] (ob [1] (op_box q0 (cells_agg _)) <| ob [] (op_alloc Tryd.zeroValue25 z25) .nil) fun b1 a w h => ?_
  refine wp_seq ?_
  refine regS mixed hn hG h [0, 1, 2, 3, 4, 500, 5, 6, 7] (ov [] (op_assign qi) .nil) fun _ a w h => ?_
  refine wp_block ?_
  obtain ⟨cr42, hl43, hF⟩ := bind_some hF
  refine wp_mono (wp_loopN (R := (List UInt8) × (Option O_RLog)) (S := Int × (Option O_RLog) × (List UInt8)) (fun s a w => SatL c [.slot 0 (eqVP p_0), .slot 2 (intVP .u32 a_2), .slot 3 (slVP (dC 32) a_3), .slot 5 (lpVP (b1 0) 0), .slot 8 (lpVP (b1 1) 0), .slot 9 (intVP .i64 s.1), .res (RLog_e p_0 s.2.1), .res (lb (b1 0) 25 [bytesCk 32 s.2.2]), .res (lb (b1 1) 25 [bytesCk 32 (List.replicate 32 0)])] a w) (fun res e a w => match res with | .next s => e = .exit 0 ∧ SatL c [.slot 5 (lpVP (b1 0) 0), .slot 8 (lpVP (b1 1) 0), .res (RLog_e p_0 s.2.1), .res (lb (b1 0) 25 [bytesCk 32 s.2.2]), .res (lb (b1 1) 25 [bytesCk 32 (List.replicate 32 0)])] a w | .ret r => e = .ret ∧ RetOk Tryd.prog Tryd.f27 c (aggVP [bytesCk 32 r.1]) (fun _ => [RLog_e p_0 r.2]) a w) ?_ _ (0, L_0, a_1) _ _ _ (h.sub [0, 1, 2, 3, 4, 5, 6, 7, 8] (by rfl)) hl43) ?_
  · clear hl43 hF h
    intro s a w o h hF
    obtain ⟨x12, x13, x14⟩ := s
    change ref07_Climb.b1 a_2 a_3 x12 x13 x14 = some o at hF
    unfold ref07_Climb.b1 at hF
    change SatL c [.slot 0 (eqVP p_0), .slot 2 (intVP .u32 a_2), .slot 3 (slVP (dC 32) a_3), .slot 5 (lpVP (b1 0) 0), .slot 8 (lpVP (b1 1) 0), .slot 9 (intVP .i64 x12), .res (RLog_e p_0 x13), .res (lb (b1 0) 25 [bytesCk 32 x14]), .res (lb (b1 1) 25 [bytesCk 32 (List.replicate 32 0)])] a w at h
    refine wp_seq ?_
    refine wp_seq ?_
    refine wp_cut (fun a w => ∃ (x27 : Bool), ref07_Climb.j1 a_2 a_3 x12 x13 x14 x27 = some o ∧ SatL c [.slot 0 (eqVP p_0), .slot 2 (intVP .u32 a_2), .slot 3 (slVP (dC 32) a_3), .slot 5 (lpVP (b1 0) 0), .slot 8 (lpVP (b1 1) 0), .slot 9 (intVP .i64 x12), .slot 17 (boolVP x27), .res (RLog_e p_0 x13), .res (lb (b1 0) 25 [bytesCk 32 x14]), .res (lb (b1 1) 25 [bytesCk 32 (List.replicate 32 0)])] a w) ?_ ?_
    · rcases Bool.eq_false_or_eq_true (decide (x12 < (a_3.length : Int))) with hb41 | hb41
      · replace hF := tt_of hb41 hF
        refine reg mixed hn hG h [0, 1, 2, 3, 4, 5, 500, 6, 7, 8] (ov [5] (op_move q0) <| ov [2] (op_move q0) <| ov [500] (op_len_sl Tryd.underlying26 q0) <| ov [502, 500] (op_bin bin_lss q0 q1) <| ov [500] (op_move q0) <| oe [500, 5] [] (GOk.on_eq hb41 rfl rfl rfl (op_move q0)) <| oe [501, 500] [] (GOk.on_eq hb41 rfl rfl rfl (op_bin bin_lss q0 qi)) <| ov [502, 500] (op_pick_t hb41 q0 q1) .nil) fun _ a w h => ?_
        exact ⟨decide (x12 < (32 : Int)), hF, h.sub [0, 1, 2, 3, 4, 5, 6, 7, 8, 9] (by rfl)⟩
      · replace hF := ff_of hb41 hF
        refine reg mixed hn hG h [0, 1, 2, 3, 4, 5, 500, 6, 7, 8] (ov [5] (op_move q0) <| ov [2] (op_move q0) <| ov [500] (op_len_sl Tryd.underlying26 q0) <| ov [502, 500] (op_bin bin_lss q0 q1) <| ov [500] (op_move q0) <| oe [500] [] (GOk.off_v (want := true) hb41 rfl rfl rfl rfl) <| oe [501] [] (GOk.off_v (want := true) hb41 rfl rfl rfl rfl) <| ov [502] (op_pick_f hb41 q0 qb) .nil) fun _ a w h => ?_
        exact ⟨false, hF, h.sub [0, 1, 2, 3, 4, 5, 6, 7, 8, 9] (by rfl)⟩
    · clear h hF
      rintro a w ⟨x27, hF, h⟩
      unfold ref07_Climb.j1 at hF
      show Code.wp Tryd.prog _ _ a w
      refine cnd h hF 6 [0, 1, 2, 3, 4, 5, 7, 8, 9] [0, 1, 2, 3, 4, 5, 7, 8, 9] (fun hb28 hF h => ?_) (fun hb28 hF h => ?_)
      · refine wp_skip ?_
        show Code.wp Tryd.prog _ _ a w
        refine wp_seq ?_
        refine wp_block ?_
        obtain ⟨r29, hr29, hF⟩ := bind_some hF
        refine regS mixed hn hG h [0, 1, 2, 3, 4, 5, 500, 6, 7, 8] (ov [1] (op_move q0) <| ov [5] (op_move q0) <| oc [501, 500] [] Tryd.call86 (ref07_bit_ok hr29) ⟨q0, q1, trivial⟩ .nil) fun _ a w h => ?_
        refine wp_cut (fun a w => ∃ (x34 : List UInt8), ∃ (x35 : Option O_RLog), ref07_Climb.j2 x12 x34 x35 = some o ∧ SatL c [.slot 0 (eqVP p_0), .slot 2 (intVP .u32 a_2), .slot 3 (slVP (dC 32) a_3), .slot 5 (lpVP (b1 0) 0), .slot 8 (lpVP (b1 1) 0), .slot 9 (intVP .i64 x12), .res (lb (b1 0) 25 [bytesCk 32 x34]), .res (lb (b1 1) 25 [bytesCk 32 (List.replicate 32 0)]), .res (RLog_e p_0 x35)] a w) ?_ ?_
        · refine cnd h hF 6 [0, 1, 2, 3, 4, 5, 7, 8, 9] [0, 1, 2, 3, 4, 5, 7, 8, 9] (fun hb36 hF h => ?_) (fun hb36 hF h => ?_)
          · obtain ⟨hv37, hF⟩ := ite_some hF
            obtain ⟨r38, hr38, hF⟩ := bind_some hF
            refine reg mixed hn hG h [0, 1, 2, 3, 4, 5, 500, 8, 501] (ov [0] (op_move q0) <| ov [2] (op_move q0) <| ov [5] (op_move q0) <| ov [501, 500] (op_indexAddr_sl Tryd.underlying26 Tryd.sizeOf25 (lens_dC 32) q0 q1 hv37) <| ov [500] (op_load_pp [bytesCk 32 (a_3.getD x12.toNat default)] [] Tryd.isAgg25 Tryd.sizeOf25 q0 rfl) <| ov [3, 7] (op_load_w 1 Tryd.isAgg25 Tryd.sizeOf25 q0) <| oc [505, 501, 500] [6] Tryd.call87 (ref04_Log_Two_ok hr38) ⟨q0, qi, q1, q2, trivial⟩ <| ou [3, 501] 7 (op_store_w Tryd.sizeOf25 q0 q1 (cells_agg _)) .nil) fun _ a w h => ?_
            exact ⟨r38.1, r38.2, hF, h.sub [0, 1, 2, 3, 4, 5, 6, 7, 8] (by rfl)⟩
          · obtain ⟨hv39, hF⟩ := ite_some hF
            obtain ⟨r40, hr40, hF⟩ := bind_some hF
            refine reg mixed hn hG h [0, 1, 2, 3, 4, 5, 500, 8, 501] (ov [0] (op_move q0) <| ov [3, 7] (op_load_w 1 Tryd.isAgg25 Tryd.sizeOf25 q0) <| ov [2] (op_move q0) <| ov [5] (op_move q0) <| ov [501, 500] (op_indexAddr_sl Tryd.underlying26 Tryd.sizeOf25 (lens_dC 32) q0 q1 hv39) <| ov [500] (op_load_pp [bytesCk 32 (a_3.getD x12.toNat default)] [] Tryd.isAgg25 Tryd.sizeOf25 q0 rfl) <| oc [505, 504, 500] [6] Tryd.call87 (ref04_Log_Two_ok hr40) ⟨q0, qi, q1, q2, trivial⟩ <| ou [3, 501] 7 (op_store_w Tryd.sizeOf25 q0 q1 (cells_agg _)) .nil) fun _ a w h => ?_
            exact ⟨r40.1, r40.2, hF, h.sub [0, 1, 2, 3, 4, 5, 6, 7, 8] (by rfl)⟩
        · clear h hF
          rintro a w ⟨x34, x35, hF, h⟩
          unfold ref07_Climb.j2 at hF
          show Code.wp Tryd.prog _ _ a w
          refine reg mixed hn hG h [0, 1, 2, 3, 4, 500, 6, 7, 8] (ov [5] (op_move q0) <| ov [500] (op_bin bin_add q0 qi) <| od [500] 5 (op_assign q0) .nil) fun _ a w h => ?_
          obtain rfl := Option.some.inj hF
          exact ⟨rfl, h.sub [0, 1, 2, 3, 4, 5, 8, 6, 7] (by rfl)⟩
      · refine wp_exit ?_
        obtain rfl := Option.some.inj hF
        exact ⟨exit_ne _, rfl, h.sub [3, 4, 6, 7, 8] (by rfl)⟩
  · clear hl43
    intro e a w hq
    cases cr42 with
    | ret r44 =>
      obtain ⟨rfl, hq⟩ := hq
      obtain rfl := Option.some.inj hF
      exact ⟨.inl rfl, hq⟩
    | next s45 =>
      obtain ⟨y46, y47, y48⟩ := s45
      obtain ⟨rfl, h⟩ := hq
      change SatL c [.slot 5 (lpVP (b1 0) 0), .slot 8 (lpVP (b1 1) 0), .res (RLog_e p_0 y47), .res (lb (b1 0) 25 [bytesCk 32 y48]), .res (lb (b1 1) 25 [bytesCk 32 (List.replicate 32 0)])] a w at h
      refine inBlock_at ?_
      show Code.wp Tryd.prog _ _ a w
      refine regS mixed hn hG h [1, 2, 500] (ov [0, 3] (op_load_w 1 Tryd.isAgg25 Tryd.sizeOf25 q0) <| ou [1, 500] 4 (op_store_w Tryd.sizeOf25 q0 q1 (cells_agg _)) .nil) fun _ a w h => ?_
      refine wp_ret ?_
      obtain rfl := Option.some.inj hF
      exact ⟨.inl rfl, ret1 h Tryd.results27 (r_cell 0 2 rfl rfl Tryd.isAgg25 Tryd.sizeOf25 rfl) [1] [(RLog_e p_0 y47)] rfl rfl rfl⟩

def ref04_Log_Clash.n : Option Bool := some false
def ref04_Log_Clash.s (s_0 : O_RLog) : Option Bool := (if s_0.f_Digests.length ≤ mxl then some (decide ((s_0.f_Digests.length : Int) < (s_0.f_Inputs.length : Int))) else none)
def ref04_Log_Clash (L_0 : Option O_RLog) : Option Bool := match L_0 with | none => ref04_Log_Clash.n | some s_0 => ref04_Log_Clash.s s_0
theorem ref04_Log_Clash_ok {p_0 : Value} {h_0_0 : Value} {h_0_1 : Value} {L_0 : Option O_RLog} {r : Bool} (hF : ref04_Log_Clash L_0 = some r) : CallOk Tryd.prog KG 28 [(eqVP p_0)] [(RLog_o p_0 h_0_0 h_0_1 L_0)] (fun _ => [(RLog_o p_0 h_0_0 h_0_1 L_0)]) (boolVP r) := by
  refine CallOk.intro 18 Tryd.func28 rfl Tryd.ntmps28 (Nat.le_of_ble_eq_true rfl) ?_
  intro c a w hG hn h
  unfold ref04_Log_Clash at hF
  change SatL c [.slot 0 (eqVP p_0), .res (RLog_o p_0 h_0_0 h_0_1 L_0)] a w at h
  cases L_0 with
  | none =>
    change ref04_Log_Clash.n = some r at hF
    unfold ref04_Log_Clash.n at hF
    obtain rfl := h.isp 1 rfl (fun _ _ _ q => q.2)
    replace h := h.slotc 0 rfl (V' := ptrVP (.pointer none) false) (fun _ _ h => ⟨h, rfl⟩)
    change SatL c [.slot 0 (ptrVP (.pointer none) false), .res (RLog_o (.pointer none) h_0_0 h_0_1 none)] a w at h
    refine regS mixed hn hG h [0, 1] (ov [] (op_assign qb) .nil) fun _ a w h => ?_
    refine regS mixed hn hG h [500, 1] (ov [0] (op_move q0) <| ov [500] (op_bin (bin_pnn Tryd.underlying55) q0 (opc (ec _))) <| ov [500] (op_move q0) <| oe [500] [] (GOk.off_v (want := true) rfl rfl rfl rfl rfl) <| oe [501] [] (GOk.off_v (want := true) rfl rfl rfl rfl rfl) <| oe [502] [] (GOk.off_v (want := true) rfl rfl rfl rfl rfl) <| oe [503] [] (GOk.off_v (want := true) rfl rfl rfl rfl rfl) <| oe [504] [] (GOk.off_v (want := true) rfl rfl rfl rfl rfl) <| oe [505] [] (GOk.off_v (want := true) rfl rfl rfl rfl rfl) <| oe [506] [] (GOk.off_v (want := true) rfl rfl rfl rfl rfl) <| oe [507] [] (GOk.off_v (want := true) rfl rfl rfl rfl rfl) <| oe [508] [] (GOk.off_v (want := true) rfl rfl rfl rfl rfl) <| oe [509] [] (GOk.off_v (want := true) rfl rfl rfl rfl rfl) <| oe [510] [] (GOk.off_v (want := true) rfl rfl rfl rfl rfl) <| ov [511] (op_pick_f rfl q0 qb) <| ov [500] (op_assign q0) .nil) fun _ a w h => ?_
    refine wp_ret ?_
    obtain rfl := Option.some.inj hF
    exact ⟨.inl rfl, ret1 h Tryd.results28 (r_tmp 0 rfl) [1] [(RLog_o (.pointer none) h_0_0 h_0_1 none)] rfl rfl rfl⟩
  | some s_0 =>
    change ref04_Log_Clash.s s_0 = some r at hF
    unfold ref04_Log_Clash.s at hF
    have hp := h.isp 1 rfl (fun Φ f w q => RLog_lp Φ f w q)
    replace h := h.slotc 0 rfl (V' := lpVP p_0 0) (fun _ _ h => eq_lp h hp)
    replace h := h.sep (R := lb p_0 153 [one (eqVP h_0_0), one (eqVP h_0_1)]) (S := (RP.sep (acc h_0_0 9 1 strC s_0.f_Inputs) (mapR h_0_1 arrK (fun l => l.length = 32) (fun u y => acc u 9 1 strC y) s_0.f_Digests))) 1 rfl
    replace h := h.sep (R := acc h_0_0 9 1 strC s_0.f_Inputs) (S := (mapR h_0_1 arrK (fun l => l.length = 32) (fun u y => acc u 9 1 strC y) s_0.f_Digests)) 2 rfl
    replace h := h.sub [0, 1, 2, 3] (by rfl)
    change SatL c [.slot 0 (lpVP p_0 0), .res (lb p_0 153 [one (eqVP h_0_0), one (eqVP h_0_1)]), .res (acc h_0_0 9 1 strC s_0.f_Inputs), .res (mapR h_0_1 arrK (fun l => l.length = 32) (fun u y => acc u 9 1 strC y) s_0.f_Digests)] a w at h
    refine regS mixed hn hG h [0, 1, 2, 3] (ov [] (op_assign qb) .nil) fun _ a w h => ?_
    obtain ⟨hv1, hF⟩ := ite_some hF
    refine regS mixed hn hG h [500, 1, 2, 3] (ov [0] (op_move q0) <| ov [500] (op_bin (bin_pnn Tryd.underlying55) (lp_ptr q0) (opc (ec _))) <| ov [500] (op_move q0) <| oe [500, 0] [] (GOk.on_eq rfl rfl rfl rfl (op_move q0)) <| oe [501, 500] [] (GOk.on_eq rfl rfl rfl rfl (op_nilCheck q0 (ptr_lp _ _))) <| oe [502, 500] [] (GOk.on_eq rfl rfl rfl rfl (op_fieldAddr_lbm (p := p_0) (n := 1) 0 1 Tryd.underlying153 rfl Tryd.sizeOf150 (by decide) q0 rfl)) <| oe [503, 500, 1] [] (GOk.on_eq rfl rfl rfl rfl (op_load_lb1 [one (eqVP h_0_0)] [] 1 Tryd.isAgg150 q0 rfl rfl)) <| oe [504, 500, 3] [] (GOk.on_eq rfl rfl rfl rfl (op_len_map 1 Tryd.underlying150 q0 rfl res_id hv1)) <| oe [505, 0] [] (GOk.on_eq rfl rfl rfl rfl (op_move q0)) <| oe [506, 500] [] (GOk.on_eq rfl rfl rfl rfl (op_nilCheck q0 (ptr_lp _ _))) <| oe [507, 500] [] (GOk.on_eq rfl rfl rfl rfl (op_fieldAddr_lbm (p := p_0) (n := 1) 0 0 Tryd.underlying153 rfl Tryd.sizeOf151 (by decide) q0 rfl)) <| oe [508, 500, 1] [] (GOk.on_eq rfl rfl rfl rfl (op_load_lb1 [] [one (eqVP h_0_1)] 1 Tryd.isAgg151 q0 rfl rfl)) <| oe [509, 500, 2] [] (GOk.on_eq rfl rfl rfl rfl (op_len_sl Tryd.underlying151 (opacc 0 1 rfl rfl))) <| oe [510, 505, 500] [] (GOk.on_eq rfl rfl rfl rfl (op_bin bin_lss q0 q1)) <| ov [511, 500] (op_pick_t rfl q0 q1) <| ov [500] (op_assign q0) .nil) fun _ a w h => ?_
    refine wp_ret ?_
    replace h := h.unsep 2 3 rfl rfl (by decide)
    replace h := h.unsep 1 2 rfl rfl (by decide)
    replace h := h.sub [0, 1] (by rfl)
    change SatL c [.slot 2 (boolVP (decide ((s_0.f_Digests.length : Int) < (s_0.f_Inputs.length : Int)))), .res (RLog_o p_0 h_0_0 h_0_1 (some s_0))] a w at h
    obtain rfl := Option.some.inj hF
    exact ⟨.inl rfl, ret1 h Tryd.results28 (r_tmp 0 rfl) [1] [(RLog_o p_0 h_0_0 h_0_1 (some s_0))] rfl rfl rfl⟩
theorem ref04_Log_Clash_oke {p_0 : Value} {L_0 : Option O_RLog} {r : Bool} (hF : ref04_Log_Clash L_0 = some r) : CallOk Tryd.prog KG 28 [(eqVP p_0)] [RLog_e p_0 L_0] (fun _ => [RLog_e p_0 L_0]) (boolVP r) := CallOk.ex fun h_0_0 => CallOk.ex fun h_0_1 => ref04_Log_Clash_ok hF
theorem ref04_Log_Clash_oku {p_0 : Value} {h_0_0 : Value} {h_0_1 : Value} {s_0 : O_RLog} {r : Bool} (hF : ref04_Log_Clash (some s_0) = some r) : CallOk Tryd.prog KG 28 [(eqVP p_0)] [lb p_0 153 [one (eqVP h_0_0), one (eqVP h_0_1)], acc h_0_0 9 1 strC s_0.f_Inputs, mapR h_0_1 arrK (fun l => l.length = 32) (fun u y => acc u 9 1 strC y) s_0.f_Digests] (fun _ => [lb p_0 153 [one (eqVP h_0_0), one (eqVP h_0_1)], acc h_0_0 9 1 strC s_0.f_Inputs, mapR h_0_1 arrK (fun l => l.length = 32) (fun u y => acc u 9 1 strC y) s_0.f_Digests]) (boolVP r) := CallOk.split2 (ref04_Log_Clash_ok hF)

def law17_ReplicaTrusts.b1 (a_0 : List (List UInt8)) (x16 : Int) (x17 : Option O_RLog) (x18 : Option S_api_Replica) : Option (Flow Bool (Int × (Option O_RLog) × (Option S_api_Replica))) := (if (decide (x16 < (IntKind.wrap .i64 ((a_0.length : Int) + 1)))) = true then ((x18).bind fun s31 => (if (0 : Int) ≤ 0 ∧ (0 : Int) ≤ x16 ∧ x16 ≤ a_0.length then ((ref07_Of x17 ((a_0.take x16.toNat).drop (0 : Int).toNat)).bind fun r35 => (if s31.f_Roots.length + [(S_api_Timed.mk r35.1 (0 : Int))].length ≤ mxl ∧ (s31.f_Roots.length + [(S_api_Timed.mk r35.1 (0 : Int))].length) * 40 ≤ 140737488355328 then some (.cont (IntKind.wrap .i64 (x16 + 1), r35.2, (some ⟨s31.f_Chain, s31.f_Here, s31.f_Updater, s31.f_Watchers, s31.f_Window, s31.f_Committed, s31.f_Roots ++ [(S_api_Timed.mk r35.1 (0 : Int))], s31.f_States, s31.f_Failed, s31.f_Cut⟩))) else none)) else none)) else some (.brk (x16, x17, x18)))
def law17_ReplicaTrusts.j3 (x55 : Bool) : Option Bool := some x55
def law17_ReplicaTrusts.j2 (a_1 : List UInt8) (r50 : (List UInt8) × (Option O_RLog)) (x53 : List UInt8) : Option Bool := (if (decide (a_1 = x53)) = true then law17_ReplicaTrusts.j3 true else (if (decide (a_1 = (List.replicate 32 0))) = true then law17_ReplicaTrusts.j3 true else ((ref04_Log_Clash r50.2).bind fun r54 => law17_ReplicaTrusts.j3 r54)))
def law17_ReplicaTrusts.j1 (a_0 : List (List UInt8)) (a_1 : List UInt8) (a_2 : Int) (a_3 : List (List UInt8)) (x4 : Bool) : Option Bool := (if x4 = true then some true else ((ref04_New).bind fun r6 => ((replica_New 1 2 ([u8of 1] ++ List.replicate (32 - 1) 0) [] 0 (List.replicate 32 0)).bind fun r8 => ((loopN (fun s : Int × (Option O_RLog) × (Option S_api_Replica) => law17_ReplicaTrusts.b1 a_0 s.1 s.2.1 s.2.2) (((IntKind.wrap .i64 ((a_0.length : Int) + 1)) - 0 : Int).toNat + 2) (0, (some r6), (some ⟨r8.f_Chain, r8.f_Here, r8.f_Updater, r8.f_Watchers, r8.f_Window, r8.f_Committed, [], r8.f_States, r8.f_Failed, r8.f_Cut⟩))).bind fun cr => match cr with | .ret r => some r | .next (y42, y43, y44) => ((y44).bind fun s45 => ((replica_Prove none s45 0 a_1 a_2 a_3).bind fun r48 => (if (!decide (r48.2.1 = (0 : Int))) = true then some true else ((ref07_Climb y43 a_1 a_2 a_3).bind fun r50 => (if (decide ((IntKind.wrap .i64 a_2) < (a_0.length : Int))) = true then (if (0 : Int) ≤ a_2 ∧ a_2 < a_0.length then law17_ReplicaTrusts.j2 a_1 r50 (a_0.getD a_2.toNat default) else none) else law17_ReplicaTrusts.j2 a_1 r50 (List.replicate 32 0))))))))))
def law17_ReplicaTrusts (a_0 : List (List UInt8)) (a_1 : List UInt8) (a_2 : Int) (a_3 : List (List UInt8)) : Option Bool := ((law17_awake).bind fun r2 => (if (!r2) = true then some false else (if (decide ((6 : Int) < (a_0.length : Int))) = true then law17_ReplicaTrusts.j1 a_0 a_1 a_2 a_3 true else law17_ReplicaTrusts.j1 a_0 a_1 a_2 a_3 (decide ((100 : Int) < (a_3.length : Int))))))
theorem law17_ReplicaTrusts_ok {a_0 : List (List UInt8)} {a_1 : List UInt8} {a_2 : Int} {a_3 : List (List UInt8)} {r : Bool} (hF : law17_ReplicaTrusts a_0 a_1 a_2 a_3 = some r) : CallOk Tryd.prog KG 5 [(slVP (dC 32) a_0), (aggVP [bytesCk 32 a_1]), (intVP .u32 a_2), (slVP (dC 32) a_3)] [] (fun _ => []) (boolVP r) := by
  refine CallOk.intro 83 Tryd.func5 rfl Tryd.ntmps5 (Nat.le_of_ble_eq_true rfl) ?_
  intro c a w hG hn h
  unfold law17_ReplicaTrusts at hF
  change SatL c [.slot 0 (slVP (dC 32) a_0), .slot 1 (aggVP [bytesCk 32 a_1]), .slot 2 (intVP .u32 a_2), .slot 3 (slVP (dC 32) a_3)] a w at h
  refine regS mixed hn hG h [0, 2, 3, 502, 501] (ob [1] (op_box q0 (cells_agg _)) <| ov [] (op_assign qb) .nil) fun b1 a w h => ?_
  refine wp_seq ?_
  obtain ⟨r2, hr2, hF⟩ := bind_some hF
  refine regS mixed hn hG h [0, 1, 2, 3, 500, 4] (oc [] [] Tryd.call22 (law17_awake_ok hr2) trivial <| ov [500] (op_un (un_not _) q0) .nil) fun _ a w h => ?_
  refine cnd h hF 4 [] [0, 1, 2, 3, 5] (fun hb3 hF h => ?_) (fun hb3 hF h => ?_)
  · refine regS mixed hn hG h [500] (ov [] (op_assign qb) .nil) fun _ a w h => ?_
    refine wp_ret ?_
    obtain rfl := Option.some.inj hF
    exact ⟨.inl rfl, ret1 h Tryd.results5 (r_tmp 0 rfl) [] [] rfl rfl rfl⟩
  · refine wp_skip ?_
    show Code.wp Tryd.prog _ _ a w
    refine wp_seq ?_
    refine wp_seq ?_
    refine wp_cut (fun a w => ∃ (x4 : Bool), law17_ReplicaTrusts.j1 a_0 a_1 a_2 a_3 x4 = some r ∧ SatL c [.slot 0 (slVP (dC 32) a_0), .slot 2 (intVP .u32 a_2), .slot 3 (slVP (dC 32) a_3), .slot 5 (lpVP (b1 0) 0), .slot 24 (boolVP x4), .res (lb (b1 0) 25 [bytesCk 32 a_1])] a w) ?_ ?_
    · rcases Bool.eq_false_or_eq_true (decide ((6 : Int) < (a_0.length : Int))) with hb60 | hb60
      · replace hF := tt_of hb60 hF
        refine reg mixed hn hG h [0, 1, 2, 3, 500, 4] (ov [0] (op_move q0) <| ov [500] (op_len_sl Tryd.underlying26 q0) <| ov [500] (op_bin bin_gtr q0 qi) <| ov [500] (op_move q0) <| oe [500] [] (GOk.off_v (want := false) hb60 rfl rfl rfl rfl) <| oe [501] [] (GOk.off_v (want := false) hb60 rfl rfl rfl rfl) <| oe [502] [] (GOk.off_v (want := false) hb60 rfl rfl rfl rfl) <| ov [503] (op_pick_t hb60 q0 qb) .nil) fun _ a w h => ?_
        exact ⟨true, hF, h.sub [0, 1, 2, 3, 4, 5] (by rfl)⟩
      · replace hF := ff_of hb60 hF
        refine reg mixed hn hG h [0, 1, 2, 3, 500, 4] (ov [0] (op_move q0) <| ov [500] (op_len_sl Tryd.underlying26 q0) <| ov [500] (op_bin bin_gtr q0 qi) <| ov [500] (op_move q0) <| oe [500, 2] [] (GOk.on_eq hb60 rfl rfl rfl (op_move q0)) <| oe [501, 500] [] (GOk.on_eq hb60 rfl rfl rfl (op_len_sl Tryd.underlying26 q0)) <| oe [502, 500] [] (GOk.on_eq hb60 rfl rfl rfl (op_bin bin_gtr q0 qi)) <| ov [503, 500] (op_pick_f hb60 q0 q1) .nil) fun _ a w h => ?_
        exact ⟨decide ((100 : Int) < (a_3.length : Int)), hF, h.sub [0, 1, 2, 3, 4, 5] (by rfl)⟩
    · clear h hF
      rintro a w ⟨x4, hF, h⟩
      unfold law17_ReplicaTrusts.j1 at hF
      show Code.wp Tryd.prog _ _ a w
      refine cnd h hF 4 [] [0, 1, 2, 3, 5] (fun hb5 hF h => ?_) (fun hb5 hF h => ?_)
      · refine regS mixed hn hG h [500] (ov [] (op_assign qb) .nil) fun _ a w h => ?_
        refine wp_ret ?_
        obtain rfl := Option.some.inj hF
        exact ⟨.inl rfl, ret1 h Tryd.results5 (r_tmp 0 rfl) [] [] rfl rfl rfl⟩
      · refine wp_skip ?_
        show Code.wp Tryd.prog _ _ a w
        obtain ⟨r6, hr6, hF⟩ := bind_some hF
        refine regS mixed hn hG h [0, 1, 2, 3, 500, 4, 501] (og [] [] [.slot 25 0 100000 (fun v1_ _ => (eqVP v1_)), .res 0 100000 (fun v1_ _ => (RLog_e (v1_) (some r6)))] (GOk.plain (op_callv Tryd.call23 (ref04_New_ok hr6) trivial) rfl) <| og [501] [] [.slot 9 0 100000 (fun v1_ _ => (eqVP v1_))] (fun {β} => (GOk.plain (op_assign (V := (eqVP (β 0))) q0) rfl)) .nil) fun b7 a w h => ?_
        obtain ⟨r8, hr8, hF⟩ := bind_some hF
        refine regS mixed hn hG h [0, 1, 2, 3, 4, 502, 5, 6, 500] (ov [] (op_buildB (xs := [.const (.int .u8 1)]) (ys := [u8of 1]) rfl bu25 ⟨⟨_, qi, (cells_u8 _)⟩, trivial⟩ (by decide) rfl) <| ov [] (build0 Tryd.zeroValue25 Tryd.underlying25 Tryd.sizeOf5 z25) <| oc [501, 500] [] Tryd.call24 (replica_New_nilr hr8) ⟨qi, qi, q0, nilc_sl, qi, q1, trivial⟩ <| ob [] (op_alloc Tryd.zeroValue31 zo31) <| og [501, 502] [500] [.res 3 100000 (fun v1_ _ => (lb (v1_) 31 [one (intVP .u32 r8.f_Chain), one (intVP .u32 r8.f_Here), bytesCk 32 r8.f_Updater, one (slVP (dC 32) r8.f_Watchers), one (intVP .u64 r8.f_Window), bytesCk 32 r8.f_Committed, one (eqVP (.slice none 0 0)), one (slVP S_api_State.ck r8.f_States), one (boolVP r8.f_Failed), one (boolVP r8.f_Cut)]))] (GOk.plain (op_store_w Tryd.sizeOf31 q0 q1 (cells_agg _)) rfl) .nil) fun b9 a w h => ?_
        refine wp_seq ?_
        refine regS mixed hn hG h [0, 1, 2, 3, 4, 5, 501, 500, 6, 7, 8] (ov [0] (op_move q0) <| ov [500] (op_len_sl Tryd.underlying26 q0) <| ov [500] (op_bin bin_add q0 qi) <| ov [] (op_move qi) .nil) fun _ a w h => ?_
        refine wp_block ?_
        replace h := h.nilacc 60 33 S_api_Timed.ck
        replace h := h.unsep 10 11 rfl rfl (by decide)
        replace h := h.conv 10 rfl (R' := LRp_e (b9 3) (some ⟨r8.f_Chain, r8.f_Here, r8.f_Updater, r8.f_Watchers, r8.f_Window, r8.f_Committed, [], r8.f_States, r8.f_Failed, r8.f_Cut⟩)) (LRp_packo (v6 := (.slice none 0 0)) (o := (some ⟨r8.f_Chain, r8.f_Here, r8.f_Updater, r8.f_Watchers, r8.f_Window, r8.f_Committed, [], r8.f_States, r8.f_Failed, r8.f_Cut⟩)))
        replace h := h.slotc 5 rfl (fun _ _ h => lp_eqv h)
        replace h := h.sub [0, 1, 2, 3, 4, 5, 6, 7, 8, 9, 10] (by rfl)
        change SatL c [.slot 0 (slVP (dC 32) a_0), .slot 2 (intVP .u32 a_2), .slot 3 (slVP (dC 32) a_3), .slot 5 (lpVP (b1 0) 0), .slot 9 (eqVP (b7 0)), .slot 10 (eqVP (b9 3)), .slot 31 (intVP .i64 (IntKind.wrap .i64 ((a_0.length : Int) + 1))), .slot 32 (intVP .i64 0), .res (lb (b1 0) 25 [bytesCk 32 a_1]), .res (RLog_e (b7 0) (some r6)), .res (LRp_e (b9 3) (some ⟨r8.f_Chain, r8.f_Here, r8.f_Updater, r8.f_Watchers, r8.f_Window, r8.f_Committed, [], r8.f_States, r8.f_Failed, r8.f_Cut⟩))] a w at h
        obtain ⟨cr38, hl39, hF⟩ := bind_some hF
        refine wp_mono (wp_loopN (R := Bool) (S := Int × (Option O_RLog) × (Option S_api_Replica)) (fun s a w => SatL c [.slot 0 (slVP (dC 32) a_0), .slot 2 (intVP .u32 a_2), .slot 3 (slVP (dC 32) a_3), .slot 5 (lpVP (b1 0) 0), .slot 9 (eqVP (b7 0)), .slot 10 (eqVP (b9 3)), .slot 31 (intVP .i64 (IntKind.wrap .i64 ((a_0.length : Int) + 1))), .slot 32 (intVP .i64 s.1), .res (lb (b1 0) 25 [bytesCk 32 a_1]), .res (RLog_e (b7 0) s.2.1), .res (LRp_e (b9 3) s.2.2)] a w) (fun res e a w => match res with | .next s => e = .exit 0 ∧ SatL c [.slot 0 (slVP (dC 32) a_0), .slot 2 (intVP .u32 a_2), .slot 3 (slVP (dC 32) a_3), .slot 5 (lpVP (b1 0) 0), .slot 9 (eqVP (b7 0)), .slot 10 (eqVP (b9 3)), .res (lb (b1 0) 25 [bytesCk 32 a_1]), .res (RLog_e (b7 0) s.2.1), .res (LRp_e (b9 3) s.2.2)] a w | .ret r => e = .ret ∧ RetOk Tryd.prog Tryd.f5 c (boolVP r) (fun _ => []) a w) ?_ _ (0, (some r6), (some ⟨r8.f_Chain, r8.f_Here, r8.f_Updater, r8.f_Watchers, r8.f_Window, r8.f_Committed, [], r8.f_States, r8.f_Failed, r8.f_Cut⟩)) _ _ _ (h.sub [0, 1, 2, 3, 4, 5, 6, 7, 8, 9, 10] (by rfl)) hl39) ?_
        · clear hl39 hF h
          intro s a w o h hF
          obtain ⟨x16, x17, x18⟩ := s
          change law17_ReplicaTrusts.b1 a_0 x16 x17 x18 = some o at hF
          unfold law17_ReplicaTrusts.b1 at hF
          change SatL c [.slot 0 (slVP (dC 32) a_0), .slot 2 (intVP .u32 a_2), .slot 3 (slVP (dC 32) a_3), .slot 5 (lpVP (b1 0) 0), .slot 9 (eqVP (b7 0)), .slot 10 (eqVP (b9 3)), .slot 31 (intVP .i64 (IntKind.wrap .i64 ((a_0.length : Int) + 1))), .slot 32 (intVP .i64 x16), .res (lb (b1 0) 25 [bytesCk 32 a_1]), .res (RLog_e (b7 0) x17), .res (LRp_e (b9 3) x18)] a w at h
          refine regS mixed hn hG h [0, 1, 2, 3, 4, 5, 6, 7, 500, 8, 9, 10] (ov [7, 6] (op_bin bin_lss q0 q1) .nil) fun _ a w h => ?_
          refine wp_seq ?_
          refine cnd h hF 8 [0, 1, 2, 3, 4, 5, 6, 7, 9, 10, 11] [0, 1, 2, 3, 4, 5, 6, 7, 9, 10, 11] (fun hb30 hF h => ?_) (fun hb30 hF h => ?_)
          · refine wp_skip ?_
            show Code.wp Tryd.prog _ _ a w
            refine wp_seq ?_
            refine wp_block ?_
            refine regS mixed hn hG h [0, 1, 2, 3, 4, 5, 500, 6, 7, 8, 9, 10] (ov [7] (op_move q0) <| ov [500] (op_assign q0) .nil) fun _ a w h => ?_
            obtain ⟨s31, hs32, hF⟩ := bind_some hF
            rw [hs32] at h
            obtain ⟨h33, h⟩ := h.ex 11 rfl
            have hp := h.isp 11 rfl (fun Φ f w q => LRp_lp Φ f w q)
            replace h := h.slotc 5 rfl (V' := lpVP (b9 3) 0) (fun _ _ h => eq_lp h hp)
            replace h := h.sep (R := lb (b9 3) 31 [one (intVP .u32 s31.f_Chain), one (intVP .u32 s31.f_Here), bytesCk 32 s31.f_Updater, one (slVP (dC 32) s31.f_Watchers), one (intVP .u64 s31.f_Window), bytesCk 32 s31.f_Committed, one (eqVP h33), one (slVP S_api_State.ck s31.f_States), one (boolVP s31.f_Failed), one (boolVP s31.f_Cut)]) (S := (acc h33 60 33 S_api_Timed.ck s31.f_Roots)) 11 rfl
            replace h := h.sub [0, 1, 2, 3, 4, 5, 6, 7, 8, 9, 10, 11, 12] (by rfl)
            change SatL c [.slot 0 (slVP (dC 32) a_0), .slot 2 (intVP .u32 a_2), .slot 3 (slVP (dC 32) a_3), .slot 5 (lpVP (b1 0) 0), .slot 9 (eqVP (b7 0)), .slot 10 (lpVP (b9 3) 0), .slot 11 (intVP .i64 x16), .slot 31 (intVP .i64 (IntKind.wrap .i64 ((a_0.length : Int) + 1))), .slot 32 (intVP .i64 x16), .res (lb (b1 0) 25 [bytesCk 32 a_1]), .res (RLog_e (b7 0) x17), .res (lb (b9 3) 31 [one (intVP .u32 s31.f_Chain), one (intVP .u32 s31.f_Here), bytesCk 32 s31.f_Updater, one (slVP (dC 32) s31.f_Watchers), one (intVP .u64 s31.f_Window), bytesCk 32 s31.f_Committed, one (eqVP h33), one (slVP S_api_State.ck s31.f_States), one (boolVP s31.f_Failed), one (boolVP s31.f_Cut)]), .res (acc h33 60 33 S_api_Timed.ck s31.f_Roots)] a w at h
            obtain ⟨hv34, hF⟩ := ite_some hF
            obtain ⟨r35, hr35, hF⟩ := bind_some hF
            obtain ⟨hv36, hF⟩ := ite_some hF
            refine reg mixed hn hG h [0, 1, 2, 3, 4, 5, 7, 8, 9, 500, 506, 502] (ov [5] (op_fieldAddr_lbm (p := (b9 3)) (n := 1) 0 68 Tryd.underlying31 rfl Tryd.sizeOf28 (by decide) q0 rfl) <| ov [500, 11] (op_load_lb1 [one (intVP .u32 s31.f_Chain), one (intVP .u32 s31.f_Here), bytesCk 32 s31.f_Updater, one (slVP (dC 32) s31.f_Watchers), one (intVP .u64 s31.f_Window), bytesCk 32 s31.f_Committed] [one (slVP S_api_State.ck s31.f_States), one (boolVP s31.f_Failed), one (boolVP s31.f_Cut)] 1 Tryd.isAgg28 q0 rfl rfl) <| ov [4] (op_move q0) <| ov [0] (op_move q0) <| ov [6] (op_move q0) <| ov [501, 500] (op_slice_sl (a := 0) (b := x16) Tryd.underlying26 Tryd.sizeOf25 (lens_dC 32) q0 rfl ⟨_, q1⟩ hv34) <| oc [503, 500] [10] Tryd.call25 (ref07_Of_ok hr35) ⟨q0, q1, trivial⟩ <| ov [501] (op_build [(0, .tmp 41)] rfl bu60 z60 ⟨[], [bytesCk 32 (List.replicate 32 0)], [one (intVP .u64 (0 : Int))], [bytesCk 32 r35.1], _, rfl, rfl, rfl, q0, (cells_agg _), rfl⟩) <| ov [500] (op_lit (xs := [.tmp 42]) (ys := [(S_api_Timed.mk r35.1 (0 : Int))]) _ rfl Tryd.underlying28 Tryd.sizeOf60 Tryd.zeroValue60 rfl rfl (by decide) (by decide) ⟨⟨_, q0, (cells_agg _)⟩, trivial⟩ S_api_Timed.lens) <| og [508, 500] [12] [.slot 44 9 100000 (fun v1_ _ => (eqVP v1_)), .res 9 100000 (fun v1_ _ => (acc (v1_) 60 33 S_api_Timed.ck (s31.f_Roots ++ [(S_api_Timed.mk r35.1 (0 : Int))])))] (GOk.plain (op_append (i := Tryd.t60) Tryd.underlying28 Tryd.type60 rfl S_api_Timed.lens (by decide) rfl q0 q1 hv36) rfl) <| ov [5] (op_fieldAddr_lbm (p := (b9 3)) (n := 1) 0 68 Tryd.underlying31 rfl Tryd.sizeOf28 (by decide) q0 rfl) <| og [500, 502, 501] [11] [.res 9 100000 (fun v1_ _ => (lb (b9 3) 31 [one (intVP .u32 s31.f_Chain), one (intVP .u32 s31.f_Here), bytesCk 32 s31.f_Updater, one (slVP (dC 32) s31.f_Watchers), one (intVP .u64 s31.f_Window), bytesCk 32 s31.f_Committed, one (eqVP (v1_)), one (slVP S_api_State.ck s31.f_States), one (boolVP s31.f_Failed), one (boolVP s31.f_Cut)]))] (fun {β} => (GOk.plain (op_store_lb [one (intVP .u32 s31.f_Chain), one (intVP .u32 s31.f_Here), bytesCk 32 s31.f_Updater, one (slVP (dC 32) s31.f_Watchers), one (intVP .u64 s31.f_Window), bytesCk 32 s31.f_Committed] [one (eqVP h33)] [one (slVP S_api_State.ck s31.f_States), one (boolVP s31.f_Failed), one (boolVP s31.f_Cut)] [one (eqVP ((β 9)))] Tryd.sizeOf28 q0 (opone 1 2 rfl rfl acc_one) (cells_h _) rfl rfl rfl) rfl)) .nil) fun b37 a w h => ?_
            replace h := h.unsep 9 11 rfl rfl (by decide)
            replace h := h.conv 9 rfl (R' := LRp_e (b9 3) (some ⟨s31.f_Chain, s31.f_Here, s31.f_Updater, s31.f_Watchers, s31.f_Window, s31.f_Committed, s31.f_Roots ++ [(S_api_Timed.mk r35.1 (0 : Int))], s31.f_States, s31.f_Failed, s31.f_Cut⟩)) (LRp_packo (v6 := (b37 9)) (o := (some ⟨s31.f_Chain, s31.f_Here, s31.f_Updater, s31.f_Watchers, s31.f_Window, s31.f_Committed, s31.f_Roots ++ [(S_api_Timed.mk r35.1 (0 : Int))], s31.f_States, s31.f_Failed, s31.f_Cut⟩)))
            replace h := h.slotc 5 rfl (fun _ _ h => lp_eqv h)
            replace h := h.sub [0, 1, 2, 3, 4, 5, 6, 7, 8, 10, 9] (by rfl)
            change SatL c [.slot 0 (slVP (dC 32) a_0), .slot 2 (intVP .u32 a_2), .slot 3 (slVP (dC 32) a_3), .slot 5 (lpVP (b1 0) 0), .slot 9 (eqVP (b7 0)), .slot 10 (eqVP (b9 3)), .slot 31 (intVP .i64 (IntKind.wrap .i64 ((a_0.length : Int) + 1))), .slot 32 (intVP .i64 x16), .res (lb (b1 0) 25 [bytesCk 32 a_1]), .res (RLog_e (b7 0) r35.2), .res (LRp_e (b9 3) (some ⟨s31.f_Chain, s31.f_Here, s31.f_Updater, s31.f_Watchers, s31.f_Window, s31.f_Committed, s31.f_Roots ++ [(S_api_Timed.mk r35.1 (0 : Int))], s31.f_States, s31.f_Failed, s31.f_Cut⟩))] a w at h
            show Code.wp Tryd.prog _ _ a w
            refine reg mixed hn hG h [0, 1, 2, 3, 4, 5, 6, 500, 8, 9, 10] (ov [7] (op_bin bin_add q0 qi) <| od [500] 7 (op_move q0) .nil) fun _ a w h => ?_
            obtain rfl := Option.some.inj hF
            exact ⟨rfl, h.sub [0, 1, 2, 3, 4, 5, 6, 7, 8, 9, 10] (by rfl)⟩
          · refine wp_exit ?_
            obtain rfl := Option.some.inj hF
            exact ⟨exit_ne _, rfl, h.sub [0, 1, 2, 3, 4, 5, 8, 9, 10] (by rfl)⟩
        · clear hl39
          intro e a w hq
          cases cr38 with
          | ret r40 =>
            obtain ⟨rfl, hq⟩ := hq
            obtain rfl := Option.some.inj hF
            exact ⟨.inl rfl, hq⟩
          | next s41 =>
            obtain ⟨y42, y43, y44⟩ := s41
            obtain ⟨rfl, h⟩ := hq
            change SatL c [.slot 0 (slVP (dC 32) a_0), .slot 2 (intVP .u32 a_2), .slot 3 (slVP (dC 32) a_3), .slot 5 (lpVP (b1 0) 0), .slot 9 (eqVP (b7 0)), .slot 10 (eqVP (b9 3)), .res (lb (b1 0) 25 [bytesCk 32 a_1]), .res (RLog_e (b7 0) y43), .res (LRp_e (b9 3) y44)] a w at h
            refine inBlock_at ?_
            show Code.wp Tryd.prog _ _ a w
            obtain ⟨s45, hs46, hF⟩ := bind_some hF
            rw [hs46] at h
            obtain ⟨h47, h⟩ := h.ex 8 rfl
            have hp := h.isp 8 rfl (fun Φ f w q => LRp_lp Φ f w q)
            replace h := h.slotc 5 rfl (V' := lpVP (b9 3) 0) (fun _ _ h => eq_lp h hp)
            replace h := h.sep (R := lb (b9 3) 31 [one (intVP .u32 s45.f_Chain), one (intVP .u32 s45.f_Here), bytesCk 32 s45.f_Updater, one (slVP (dC 32) s45.f_Watchers), one (intVP .u64 s45.f_Window), bytesCk 32 s45.f_Committed, one (eqVP h47), one (slVP S_api_State.ck s45.f_States), one (boolVP s45.f_Failed), one (boolVP s45.f_Cut)]) (S := (acc h47 60 33 S_api_Timed.ck s45.f_Roots)) 8 rfl
            replace h := h.sub [0, 1, 2, 3, 4, 5, 6, 7, 8, 9] (by rfl)
            change SatL c [.slot 0 (slVP (dC 32) a_0), .slot 2 (intVP .u32 a_2), .slot 3 (slVP (dC 32) a_3), .slot 5 (lpVP (b1 0) 0), .slot 9 (eqVP (b7 0)), .slot 10 (lpVP (b9 3) 0), .res (lb (b1 0) 25 [bytesCk 32 a_1]), .res (RLog_e (b7 0) y43), .res (lb (b9 3) 31 [one (intVP .u32 s45.f_Chain), one (intVP .u32 s45.f_Here), bytesCk 32 s45.f_Updater, one (slVP (dC 32) s45.f_Watchers), one (intVP .u64 s45.f_Window), bytesCk 32 s45.f_Committed, one (eqVP h47), one (slVP S_api_State.ck s45.f_States), one (boolVP s45.f_Failed), one (boolVP s45.f_Cut)]), .res (acc h47 60 33 S_api_Timed.ck s45.f_Roots)] a w at h
            replace h := h.unsep 8 9 rfl rfl (by decide)
            replace h := h.conv 8 rfl (settle (pre := [one (intVP .u32 s45.f_Chain), one (intVP .u32 s45.f_Here), bytesCk 32 s45.f_Updater, one (slVP (dC 32) s45.f_Watchers), one (intVP .u64 s45.f_Window), bytesCk 32 s45.f_Committed]) (post := [one (slVP S_api_State.ck s45.f_States), one (boolVP s45.f_Failed), one (boolVP s45.f_Cut)]))
            replace h := h.sep 8 rfl
            replace h := h.sub [0, 1, 2, 3, 4, 5, 6, 7, 8] (by rfl)
            change SatL c [.slot 0 (slVP (dC 32) a_0), .slot 2 (intVP .u32 a_2), .slot 3 (slVP (dC 32) a_3), .slot 5 (lpVP (b1 0) 0), .slot 9 (eqVP (b7 0)), .slot 10 (lpVP (b9 3) 0), .res (lb (b1 0) 25 [bytesCk 32 a_1]), .res (RLog_e (b7 0) y43), .res (lb (b9 3) 31 [one (intVP .u32 s45.f_Chain), one (intVP .u32 s45.f_Here), bytesCk 32 s45.f_Updater, one (slVP (dC 32) s45.f_Watchers), one (intVP .u64 s45.f_Window), bytesCk 32 s45.f_Committed, one (slVP S_api_Timed.ck s45.f_Roots), one (slVP S_api_State.ck s45.f_States), one (boolVP s45.f_Failed), one (boolVP s45.f_Cut)])] a w at h
            replace h := h.snoc Log_nil
            replace h := h.sub [0, 1, 2, 3, 4, 5, 6, 7, 8, 9] (by rfl)
            change SatL c [.slot 0 (slVP (dC 32) a_0), .slot 2 (intVP .u32 a_2), .slot 3 (slVP (dC 32) a_3), .slot 5 (lpVP (b1 0) 0), .slot 9 (eqVP (b7 0)), .slot 10 (lpVP (b9 3) 0), .res (lb (b1 0) 25 [bytesCk 32 a_1]), .res (RLog_e (b7 0) y43), .res (lb (b9 3) 31 [one (intVP .u32 s45.f_Chain), one (intVP .u32 s45.f_Here), bytesCk 32 s45.f_Updater, one (slVP (dC 32) s45.f_Watchers), one (intVP .u64 s45.f_Window), bytesCk 32 s45.f_Committed, one (slVP S_api_Timed.ck s45.f_Roots), one (slVP S_api_State.ck s45.f_States), one (boolVP s45.f_Failed), one (boolVP s45.f_Cut)]), .res (Log_e (.pointer none) none)] a w at h
            obtain ⟨r48, hr48, hF⟩ := bind_some hF
            refine regS mixed hn hG h [0, 1, 2, 3, 4, 500, 6, 7, 507] (ov [5, 8] (op_load_w 1 Tryd.isAgg31 Tryd.sizeOf31 q0) <| ov [3, 6] (op_load_w 1 Tryd.isAgg25 Tryd.sizeOf25 q0) <| ov [1] (op_move q0) <| ov [2] (op_move q0) <| oc [503, 502, 501, 500] [9] Tryd.call26 (replica_Prove_ok hr48) ⟨(opc (ec _)), q0, qi, q1, q2, q3, trivial⟩ <| ov [501] (op_move q0) <| ov [500] (op_extract q0 rfl) <| ov [501] (op_extract q0 rfl) <| ob [] (op_alloc Tryd.zeroValue31 z31) <| og [501, 503] [500] [.res 8 100000 (fun v1_ _ => (lb (v1_) 31 [one (intVP .u32 r48.1.f_Chain), one (intVP .u32 r48.1.f_Here), bytesCk 32 r48.1.f_Updater, one (slVP (dC 32) r48.1.f_Watchers), one (intVP .u64 r48.1.f_Window), bytesCk 32 r48.1.f_Committed, one (slVP S_api_Timed.ck r48.1.f_Roots), one (slVP S_api_State.ck r48.1.f_States), one (boolVP r48.1.f_Failed), one (boolVP r48.1.f_Cut)]))] (GOk.plain (op_store_w Tryd.sizeOf31 q0 q1 (cells_agg _)) rfl) <| ov [503] (op_assign q0) .nil) fun _ a w h => ?_
            refine wp_seq ?_
            refine regS mixed hn hG h [0, 1, 2, 3, 4, 500, 6, 7, 8] (ov [5] (op_move q0) <| ov [500] (op_bin bin_neq q0 qi) .nil) fun _ a w h => ?_
            refine cnd h hF 5 [7, 8] [0, 1, 2, 3, 4, 6, 7, 8] (fun hb49 hF h => ?_) (fun hb49 hF h => ?_)
            · refine regS mixed hn hG h [500, 0, 1] (ov [] (op_assign qb) .nil) fun _ a w h => ?_
              refine wp_ret ?_
              obtain rfl := Option.some.inj hF
              exact ⟨.inl rfl, ret1 h Tryd.results5 (r_tmp 0 rfl) [] [] rfl rfl rfl⟩
            · refine wp_skip ?_
              show Code.wp Tryd.prog _ _ a w
              obtain ⟨r50, hr50, hF⟩ := bind_some hF
              refine regS mixed hn hG h [0, 1, 3, 4, 5, 7, 500] (ov [4] (op_move q0) <| ov [3, 5] (op_load_w 1 Tryd.isAgg25 Tryd.sizeOf25 q0) <| ov [1] (op_move q0) <| ov [2] (op_move q0) <| oc [503, 502, 501, 500] [6] Tryd.call27 (ref07_Climb_ok hr50) ⟨q0, q1, q2, q3, trivial⟩ .nil) fun _ a w h => ?_
              refine regS mixed hn hG h [0, 1, 2, 3, 501, 4, 5, 6, 500] (ob [] (op_alloc Tryd.zeroValue25 z25) .nil) fun b51 a w h => ?_
              refine wp_seq ?_
              refine regS mixed hn hG h [0, 1, 2, 3, 4, 500, 5, 6, 7, 8] (ov [1] (op_move q0) <| ov [500] (op_convert_int Tryd.underlying22 Tryd.underlying2 q0) <| ov [0] (op_move q0) <| ov [500] (op_len_sl Tryd.underlying26 q0) <| ov [502, 500] (op_bin bin_lss q0 q1) .nil) fun _ a w h => ?_
              refine wp_cut (fun a w => ∃ (x53 : List UInt8), law17_ReplicaTrusts.j2 a_1 r50 x53 = some r ∧ SatL c [.slot 5 (lpVP (b1 0) 0), .slot 9 (eqVP (b7 0)), .slot 14 (lpVP (b51 0) 0), .res (lb (b1 0) 25 [bytesCk 32 a_1]), .res (Log_e (.pointer none) r48.2.2), .res (RLog_e (b7 0) r50.2), .res (lb (b51 0) 25 [bytesCk 32 x53])] a w) ?_ ?_
              · refine cnd h hF 5 [0, 1, 2, 3, 4, 6, 7, 8, 9] [2, 3, 4, 6, 7, 8, 9] (fun hb58 hF h => ?_) (fun hb58 hF h => ?_)
                · obtain ⟨hv59, hF⟩ := ite_some hF
                  refine reg mixed hn hG h [2, 3, 4, 5, 6, 7, 500] (ov [0] (op_move q0) <| ov [1] (op_move q0) <| ov [501, 500] (op_indexAddr_sl Tryd.underlying26 Tryd.sizeOf25 (lens_dC 32) q0 q1 hv59) <| ov [500] (op_load_pp [bytesCk 32 (a_0.getD a_2.toNat default)] [] Tryd.isAgg25 Tryd.sizeOf25 q0 rfl) <| ou [4, 500] 8 (op_store_w Tryd.sizeOf25 q0 q1 (cells_agg _)) .nil) fun _ a w h => ?_
                  exact ⟨a_0.getD a_2.toNat default, hF, h.sub [0, 1, 2, 3, 4, 5, 6] (by rfl)⟩
                · refine wp_skip ?_
                  exact ⟨(List.replicate 32 0), hF, h.sub [0, 1, 2, 3, 4, 5, 6] (by rfl)⟩
              · clear h hF
                rintro a w ⟨x53, hF, h⟩
                unfold law17_ReplicaTrusts.j2 at hF
                show Code.wp Tryd.prog _ _ a w
                refine wp_seq ?_
                refine wp_cut (fun a w => ∃ (x55 : Bool), law17_ReplicaTrusts.j3 x55 = some r ∧ SatL c [.slot 8 (boolVP x55), .res (Log_e (.pointer none) r48.2.2), .res (RLog_e (b7 0) r50.2)] a w) ?_ ?_
                · rcases Bool.eq_false_or_eq_true (decide (a_1 = x53)) with hb56 | hb56
                  · replace hF := tt_of hb56 hF
                    refine reg mixed hn hG h [500, 4, 5] (ov [0, 3] (op_load_w 1 Tryd.isAgg25 Tryd.sizeOf25 q0) <| ov [2, 6] (op_load_w 1 Tryd.isAgg25 Tryd.sizeOf25 q0) <| ov [501, 500] (op_bin (bin_aeql Tryd.underlying25 Tryd.underlying5 Tryd.type5 Tryd.sizeOf5 Tryd.isAgg5 Tryd.eqGuardType25) q0 q1) <| ov [500] (op_move q0) <| oe [500] [] (GOk.off_v (want := false) hb56 rfl rfl rfl rfl) <| oe [501] [] (GOk.off_v (want := false) hb56 rfl rfl rfl rfl) <| oe [502] [] (GOk.off_v (want := false) hb56 rfl rfl rfl rfl) <| ov [503] (op_pick_t hb56 q0 qb) <| ov [500] (op_move q0) <| oe [500] [] (GOk.off_v (want := false) rfl rfl rfl rfl rfl) <| oe [501] [] (GOk.off_v (want := false) rfl rfl rfl rfl rfl) <| ov [502] (op_pick_t rfl q0 qb) <| ov [500] (op_assign q0) .nil) fun _ a w h => ?_
                    exact ⟨true, hF, h.sub [0, 1, 2] (by rfl)⟩
                  · replace hF := ff_of hb56 hF
                    rcases Bool.eq_false_or_eq_true (decide (a_1 = (List.replicate 32 0))) with hb57 | hb57
                    · replace hF := tt_of hb57 hF
                      refine reg mixed hn hG h [500, 4, 5] (ov [0, 3] (op_load_w 1 Tryd.isAgg25 Tryd.sizeOf25 q0) <| ov [2, 6] (op_load_w 1 Tryd.isAgg25 Tryd.sizeOf25 q0) <| ov [501, 500] (op_bin (bin_aeql Tryd.underlying25 Tryd.underlying5 Tryd.type5 Tryd.sizeOf5 Tryd.isAgg5 Tryd.eqGuardType25) q0 q1) <| ov [500] (op_move q0) <| oe [500, 0, 3] [] (GOk.on_eq hb56 rfl rfl rfl (op_load_w 1 Tryd.isAgg25 Tryd.sizeOf25 q0)) <| oe [501] [] (GOk.on_eq hb56 rfl rfl rfl (build0 Tryd.zeroValue25 Tryd.underlying25 Tryd.sizeOf5 z25)) <| oe [502, 501, 500] [] (GOk.on_eq hb56 rfl rfl rfl (op_bin (bin_aeql Tryd.underlying25 Tryd.underlying5 Tryd.type5 Tryd.sizeOf5 Tryd.isAgg5 Tryd.eqGuardType25) q0 q1)) <| ov [503, 500] (op_pick_f hb56 q0 q1) <| ov [500] (op_move q0) <| oe [500] [] (GOk.off_v (want := false) hb57 rfl rfl rfl rfl) <| oe [501] [] (GOk.off_v (want := false) hb57 rfl rfl rfl rfl) <| ov [502] (op_pick_t hb57 q0 qb) <| ov [500] (op_assign q0) .nil) fun _ a w h => ?_
                      exact ⟨true, hF, h.sub [0, 1, 2] (by rfl)⟩
                    · replace hF := ff_of hb57 hF
                      obtain ⟨r54, hr54, hF⟩ := bind_some hF
                      refine reg mixed hn hG h [500, 4, 502] (ov [0, 3] (op_load_w 1 Tryd.isAgg25 Tryd.sizeOf25 q0) <| ov [2, 6] (op_load_w 1 Tryd.isAgg25 Tryd.sizeOf25 q0) <| ov [501, 500] (op_bin (bin_aeql Tryd.underlying25 Tryd.underlying5 Tryd.type5 Tryd.sizeOf5 Tryd.isAgg5 Tryd.eqGuardType25) q0 q1) <| ov [500] (op_move q0) <| oe [500, 0, 3] [] (GOk.on_eq hb56 rfl rfl rfl (op_load_w 1 Tryd.isAgg25 Tryd.sizeOf25 q0)) <| oe [501] [] (GOk.on_eq hb56 rfl rfl rfl (build0 Tryd.zeroValue25 Tryd.underlying25 Tryd.sizeOf5 z25)) <| oe [502, 501, 500] [] (GOk.on_eq hb56 rfl rfl rfl (op_bin (bin_aeql Tryd.underlying25 Tryd.underlying5 Tryd.type5 Tryd.sizeOf5 Tryd.isAgg5 Tryd.eqGuardType25) q0 q1)) <| ov [503, 500] (op_pick_f hb56 q0 q1) <| ov [500] (op_move q0) <| oe [500, 1] [] (GOk.on_eq hb57 rfl rfl rfl (op_move q0)) <| oe [501, 500] [5] (GOk.on_eq hb57 rfl rfl rfl (op_call Tryd.call28 (ref04_Log_Clash_oke hr54) ⟨q0, trivial⟩)) <| ov [503, 501] (op_pick_f hb57 q0 q1) <| ov [500] (op_assign q0) .nil) fun _ a w h => ?_
                      exact ⟨r54, hF, h.sub [0, 1, 2] (by rfl)⟩
                · clear h hF
                  rintro a w ⟨x55, hF, h⟩
                  unfold law17_ReplicaTrusts.j3 at hF
                  show Code.wp Tryd.prog _ _ a w
                  refine wp_ret ?_
                  obtain rfl := Option.some.inj hF
                  exact ⟨.inl rfl, ret1 h Tryd.results5 (r_tmp 0 rfl) [] [] rfl rfl rfl⟩
end Go.Proofs.YtnjkofmmpfehcaaDoorR
