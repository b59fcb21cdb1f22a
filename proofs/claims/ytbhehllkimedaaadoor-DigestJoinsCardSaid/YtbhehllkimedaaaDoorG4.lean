/- The functions' Lean twins and contracts, printed by this session's own program: part 4. -/
import Derived.Test.YtbhehllkimedaaaDoorG3
namespace Go.Proofs.YtbhehllkimedaaaDoor
open Go Go.RowKit Go.Proofs
set_option maxRecDepth 100000
set_option linter.unusedVariables false
def ref01_After.b1 (x7 : List (UInt8)) (x8 : List Int) : Option (Flow ((List Int) × (List (UInt8))) ((List (UInt8)) × (List Int))) := (if (decide ((64 : Int) ≤ (x7.length : Int))) = true then (if (0 : Int) ≤ 0 ∧ (0 : Int) ≤ 64 ∧ (64 : Int) ≤ x7.length then ((ref01_Block x8 ((x7.take 64).drop (0 : Int).toNat)).bind fun r17 => (if (0 : Int) ≤ 64 ∧ (64 : Int) ≤ (x7.length : Int) ∧ (x7.length : Int) ≤ x7.length then some (.cont ((x7.take (x7.length : Int).toNat).drop 64, r17)) else none)) else none) else some (.brk (x7, x8)))
def ref01_After (a_0 : List Int) (a_1 : List (UInt8)) : Option ((List Int) × (List (UInt8))) := ((loopN (fun s : (List (UInt8)) × (List Int) => ref01_After.b1 s.1 s.2) (((a_1.length : Int) - 64 : Int).toNat + 2) (a_1, a_0)).bind fun cr => match cr with | .ret r => some r | .next (y23, y24) => some (y24, y23))
theorem ref01_After_ok {a_0 : List Int} {a_1 : List (UInt8)} {r : (List Int) × (List (UInt8))} (hF : ref01_After a_0 a_1 = some r) : CallOk Tryd.prog KG 58 [(aggVP [intsCk .u32 8 a_0]), (slVP bC a_1)] [] (fun _ => []) (tupVP [(aggVP [intsCk .u32 8 r.1]), (slVP bC r.2)]) := by
  refine CallOk.intro 17 Tryd.func58 rfl Tryd.ntmps58 (Nat.le_of_ble_eq_true rfl) ?_
  intro c a w hG hn h
  unfold ref01_After at hF
  change SatL c [.slot 0 (aggVP [intsCk .u32 8 a_0]), .slot 1 (slVP bC a_1)] a w at h
  refine wp_seq ?_
  refine region_do (n := 17) [.slot 2 0 100000 (fun v1_ _ => (lpVP v1_ 0)),
      .res 0 100000 (fun v1_ _ => (lb (v1_) 85 [intsCk .u32 8 a_0])),
      .slot 4 1 100000 (fun v1_ _ => (lpVP v1_ 0)),
      .res 1 100000 (fun v1_ _ => (lb (v1_) 85 [intsCk .u32 8 (List.replicate 8 0)])),
      .slot 5 100000 100000 (fun _ _ => (eqVP (.slice none 0 0)))] [0, 0, 1, 1, 2] [⟨[0], [], [2, 3], [], some 2⟩, ⟨[], [], [4, 5], [0], some 4⟩, ⟨[], [], [6], [0, 1], some 5⟩] [1, 2, 4, 3, 5] mixed hn hG h (by kernel_rfl) ?_ ?_
  · exact ⟨⟨rfl, fun β => (GOk.plain (op_box (opt 0 rfl) (cells_agg _)) rfl)⟩, ⟨rfl, fun β => (GOk.plain (op_alloc Tryd.zeroValue85 z85) rfl)⟩, ⟨rfl, fun β => (GOk.plain (op_assign (opc (ec _))) rfl)⟩, trivial⟩
  clear h
  intro β a w h
  change SatL c [.slot 1 (slVP bC a_1), .slot 2 (lpVP (β 0) 0), .slot 4 (lpVP (β 1) 0), .res (lb (β 0) 85 [intsCk .u32 8 a_0]), .res (lb (β 1) 85 [intsCk .u32 8 (List.replicate 8 0)])] a w at h
  generalize β 0 = p1 at h
  generalize β 1 = p2 at h
  clear β
  show Code.wp Tryd.prog _ _ a w
  refine wp_seq ?_
  refine wp_block ?_
  obtain ⟨cr19, hl20, hF⟩ := bind_some hF
  refine wp_mono (wp_loopN (R := (List Int) × (List (UInt8))) (S := (List (UInt8)) × (List Int)) (fun s a w => SatL c [.slot 1 (slVP bC s.1), .slot 2 (lpVP p1 0), .slot 4 (lpVP p2 0), .res (lb p1 85 [intsCk .u32 8 s.2]), .res (lb p2 85 [intsCk .u32 8 (List.replicate 8 0)])] a w) (fun res e a w => match res with | .next s => e = .exit 0 ∧ SatL c [.slot 1 (slVP bC s.1), .slot 2 (lpVP p1 0), .slot 4 (lpVP p2 0), .res (lb p1 85 [intsCk .u32 8 s.2]), .res (lb p2 85 [intsCk .u32 8 (List.replicate 8 0)])] a w | .ret r => e = .ret ∧ RetOk Tryd.prog Tryd.f58 c (tupVP [(aggVP [intsCk .u32 8 r.1]), (slVP bC r.2)]) (fun _ => []) a w) ?_ _ (a_1, a_0) _ _ _ (h.sub [0, 1, 2, 3, 4] (by rfl)) hl20) ?_
  · clear hl20 hF h
    intro s a w o h hF
    obtain ⟨x7, x8⟩ := s
    change ref01_After.b1 x7 x8 = some o at hF
    unfold ref01_After.b1 at hF
    change SatL c [.slot 1 (slVP bC x7), .slot 2 (lpVP p1 0), .slot 4 (lpVP p2 0), .res (lb p1 85 [intsCk .u32 8 x8]), .res (lb p2 85 [intsCk .u32 8 (List.replicate 8 0)])] a w at h
    refine wp_seq ?_
    refine wp_seq ?_
    refine region_do (n := 17) [.slot 6 100000 100000 (fun _ _ => (slVP bC x7)),
      .slot 7 100000 100000 (fun _ _ => (intVP .i64 (x7.length : Int))),
      .slot 8 100000 100000 (fun _ _ => (boolVP (decide ((64 : Int) ≤ (x7.length : Int)))))] [0, 1, 2] [⟨[0], [], [5], [], some 6⟩, ⟨[5], [], [6], [0], some 7⟩, ⟨[6], [], [7], [0, 1], some 8⟩] [0, 1, 2, 7, 3, 4] mixed hn hG h (by kernel_rfl) ?_ ?_
    · exact ⟨⟨rfl, fun β => (GOk.plain (op_move (opt 0 rfl)) rfl)⟩, ⟨rfl, fun β => (GOk.plain (op_len_sl Tryd.underlying79 (opt 0 rfl)) rfl)⟩, ⟨rfl, fun β => (GOk.plain (op_bin bin_geq (opt 0 rfl) (opc (ic (by decide)))) rfl)⟩, trivial⟩
    clear h
    intro β a w h
    change SatL c [.slot 1 (slVP bC x7), .slot 2 (lpVP p1 0), .slot 4 (lpVP p2 0), .slot 8 (boolVP (decide ((64 : Int) ≤ (x7.length : Int)))), .res (lb p1 85 [intsCk .u32 8 x8]), .res (lb p2 85 [intsCk .u32 8 (List.replicate 8 0)])] a w at h
    clear β
    show Code.wp Tryd.prog _ _ a w
    refine cond_L h 3 rfl (fun hb15 => ?_) (fun hb15 => ?_)
    · replace hF := tt_of hb15 hF
      replace h := h.sub [0, 1, 2, 4, 5] (by rfl)
      change SatL c [.slot 1 (slVP bC x7), .slot 2 (lpVP p1 0), .slot 4 (lpVP p2 0), .res (lb p1 85 [intsCk .u32 8 x8]), .res (lb p2 85 [intsCk .u32 8 (List.replicate 8 0)])] a w at h
      refine wp_skip ?_
      show Code.wp Tryd.prog _ _ a w
      refine wp_block ?_
      refine wp_seq ?_
      obtain ⟨hv16, hF⟩ := ite_some hF
      obtain ⟨r17, hr17, hF⟩ := bind_some hF
      refine region_do (n := 17) [.slot 9 100000 100000 (fun _ _ => (aggVP [intsCk .u32 8 x8])),
      .slot 10 100000 100000 (fun _ _ => (slVP bC x7)),
      .slot 11 100000 100000 (fun _ _ => (slVP bC ((x7.take 64).drop (0 : Int).toNat))),
      .slot 12 100000 100000 (fun _ _ => (aggVP [intsCk .u32 8 r17])),
      .res 100000 100000 (fun _ _ => (lb p1 85 [intsCk .u32 8 r17]))] [0, 1, 2, 3, 4] [⟨[1, 3], [], [5], [], some 9⟩, ⟨[0], [], [6], [], some 10⟩, ⟨[6], [], [7], [1], some 11⟩, ⟨[5, 7], [], [8], [0, 1, 2], some 12⟩, ⟨[1, 8], [3], [9], [0, 1, 2, 3], none⟩] [0, 1, 2, 9, 4] mixed hn hG h (by kernel_rfl) ?_ ?_
      · exact ⟨⟨rfl, fun β => (GOk.plain (op_load_lb [] [intsCk .u32 8 x8] [] 1 Tryd.isAgg85 Tryd.sizeOf85 (opt 0 rfl) rfl rfl rfl) rfl)⟩, ⟨rfl, fun β => (GOk.plain (op_move (opt 0 rfl)) rfl)⟩, ⟨rfl, fun β => (GOk.plain (op_slice_sl (a := 0) (b := 64) Tryd.underlying79 Tryd.sizeOf5 lens_bC (opt 0 rfl) rfl ⟨_, (opc (ic (by decide)))⟩ hv16) rfl)⟩, ⟨rfl, fun β => (GOk.plain (op_call Tryd.call66 (ref01_Block_ok hr17) ⟨(opt 0 rfl), (opt 1 rfl), trivial⟩) rfl)⟩, ⟨rfl, fun β => (GOk.plain (op_store_lb [] [intsCk .u32 8 x8] [] [intsCk .u32 8 r17] Tryd.sizeOf85 (opt 0 rfl) (opt 1 rfl) (cells_agg _) rfl rfl rfl) rfl)⟩, trivial⟩
      clear h
      intro β a w h
      change SatL c [.slot 1 (slVP bC x7), .slot 2 (lpVP p1 0), .slot 4 (lpVP p2 0), .res (lb p1 85 [intsCk .u32 8 r17]), .res (lb p2 85 [intsCk .u32 8 (List.replicate 8 0)])] a w at h
      clear β
      show Code.wp Tryd.prog _ _ a w
      obtain ⟨hv18, hF⟩ := ite_some hF
      refine region_do (n := 17) [.slot 13 100000 100000 (fun _ _ => (slVP bC x7)),
      .slot 14 100000 100000 (fun _ _ => (slVP bC ((x7.take (x7.length : Int).toNat).drop 64))),
      .slot 1 100000 100000 (fun _ _ => (slVP bC ((x7.take (x7.length : Int).toNat).drop 64)))] [0, 1, 2] [⟨[0], [], [5], [], some 13⟩, ⟨[5], [], [6], [0], some 14⟩, ⟨[6], [0], [7], [0, 1], some 1⟩] [7, 1, 2, 3, 4] mixed hn hG h (by kernel_rfl) ?_ ?_
      · exact ⟨⟨rfl, fun β => (GOk.plain (op_move (opt 0 rfl)) rfl)⟩, ⟨rfl, fun β => (GOk.plain (op_slice_sl (a := 64) (b := (x7.length : Int)) Tryd.underlying79 Tryd.sizeOf5 lens_bC (opt 0 rfl) ⟨_, (opc (ic (by decide)))⟩ rfl hv18) rfl)⟩, ⟨rfl, fun β => (GOk.drop _ (GOk.plain (op_assign (opt 0 rfl)) rfl))⟩, trivial⟩
      clear h
      intro β a w h
      change SatL c [.slot 1 (slVP bC ((x7.take (x7.length : Int).toNat).drop 64)), .slot 2 (lpVP p1 0), .slot 4 (lpVP p2 0), .res (lb p1 85 [intsCk .u32 8 r17]), .res (lb p2 85 [intsCk .u32 8 (List.replicate 8 0)])] a w at h
      clear β
      obtain rfl := Option.some.inj hF
      exact ⟨rfl, h.sub [0, 1, 2, 3, 4] (by rfl)⟩
    · replace hF := ff_of hb15 hF
      replace h := h.sub [0, 1, 2, 4, 5] (by rfl)
      change SatL c [.slot 1 (slVP bC x7), .slot 2 (lpVP p1 0), .slot 4 (lpVP p2 0), .res (lb p1 85 [intsCk .u32 8 x8]), .res (lb p2 85 [intsCk .u32 8 (List.replicate 8 0)])] a w at h
      refine wp_exit ?_
      obtain rfl := Option.some.inj hF
      exact ⟨exit_ne _, rfl, h.sub [0, 1, 2, 3, 4] (by rfl)⟩
  · clear hl20
    intro e a w hq
    cases cr19 with
    | ret r21 =>
      obtain ⟨rfl, hq⟩ := hq
      obtain rfl := Option.some.inj hF
      exact ⟨.inl rfl, hq⟩
    | next s22 =>
      obtain ⟨y23, y24⟩ := s22
      obtain ⟨rfl, h⟩ := hq
      change SatL c [.slot 1 (slVP bC y23), .slot 2 (lpVP p1 0), .slot 4 (lpVP p2 0), .res (lb p1 85 [intsCk .u32 8 y24]), .res (lb p2 85 [intsCk .u32 8 (List.replicate 8 0)])] a w at h
      refine inBlock_at ?_
      show Code.wp Tryd.prog _ _ a w
      refine wp_seq ?_
      refine region_do (n := 17) [.slot 15 100000 100000 (fun _ _ => (aggVP [intsCk .u32 8 y24])),
      .slot 16 100000 100000 (fun _ _ => (slVP bC y23)),
      .res 100000 100000 (fun _ _ => (lb p2 85 [intsCk .u32 8 y24])),
      .slot 5 100000 100000 (fun _ _ => (slVP bC y23))] [0, 1, 2, 3] [⟨[1, 3], [], [5], [], some 15⟩, ⟨[0], [], [6], [0], some 16⟩, ⟨[2, 5], [4], [7], [0, 1], none⟩, ⟨[6], [], [8], [0, 1, 2], some 5⟩] [2, 8, 7] mixed hn hG h (by kernel_rfl) ?_ ?_
      · exact ⟨⟨rfl, fun β => (GOk.plain (op_load_lb [] [intsCk .u32 8 y24] [] 1 Tryd.isAgg85 Tryd.sizeOf85 (opt 0 rfl) rfl rfl rfl) rfl)⟩, ⟨rfl, fun β => (GOk.plain (op_move (opt 0 rfl)) rfl)⟩, ⟨rfl, fun β => (GOk.plain (op_store_lb [] [intsCk .u32 8 (List.replicate 8 0)] [] [intsCk .u32 8 y24] Tryd.sizeOf85 (opt 0 rfl) (opt 1 rfl) (cells_agg _) rfl rfl rfl) rfl)⟩, ⟨rfl, fun β => (GOk.plain (op_assign (opt 0 rfl)) rfl)⟩, trivial⟩
      clear h
      intro β a w h
      change SatL c [.slot 4 (lpVP p2 0), .slot 5 (slVP bC y23), .res (lb p2 85 [intsCk .u32 8 y24])] a w at h
      clear β
      show Code.wp Tryd.prog _ _ a w
      refine wp_ret ?_
      obtain rfl := Option.some.inj hF
      exact ⟨.inl rfl, retn h (rs := [.cell 4 85, .tmp 5]) (Vs := [(aggVP [intsCk .u32 8 y24]), (slVP bC y23)]) Tryd.results58 (by decide) ⟨(r_cell 0 2 rfl rfl Tryd.isAgg85 Tryd.sizeOf85 rfl), (r_tmp 1 rfl), trivial⟩ [] [] rfl rfl rfl⟩

def ref01_End.b1 (x11 : List (UInt8)) : Option (Flow (List UInt8) (List (UInt8))) := (if (!decide (((x11.length : Int).tmod 64) = (56 : Int))) = true then (if x11.length + [u8of 0].length ≤ mxl ∧ (x11.length + [u8of 0].length) * 1 ≤ 140737488355328 then some (.cont (x11 ++ [u8of 0])) else none) else some (.brk x11))
def ref01_End.b2 (a_2 : Int) (x29 : Int) (x30 : List (UInt8)) : Option (Flow (List UInt8) (Int × (List (UInt8)))) := (if (decide (x29 < (8 : Int))) = true then (if x30.length + [u8of (IntKind.wrap .u8 (shr .u64 (IntKind.wrap .u64 (8 * a_2)) (IntKind.wrap .u64 (IntKind.wrap .i64 (56 - (IntKind.wrap .i64 (8 * x29)))))))].length ≤ mxl ∧ (x30.length + [u8of (IntKind.wrap .u8 (shr .u64 (IntKind.wrap .u64 (8 * a_2)) (IntKind.wrap .u64 (IntKind.wrap .i64 (56 - (IntKind.wrap .i64 (8 * x29)))))))].length) * 1 ≤ 140737488355328 then some (.cont (IntKind.wrap .i64 (x29 + 1), x30 ++ [u8of (IntKind.wrap .u8 (shr .u64 (IntKind.wrap .u64 (8 * a_2)) (IntKind.wrap .u64 (IntKind.wrap .i64 (56 - (IntKind.wrap .i64 (8 * x29)))))))])) else none) else some (.brk (x29, x30)))
def ref01_End.b3 (r47 : (List Int) × (List (UInt8))) (x51 : Int) (x52 : List UInt8) : Option (Flow (List UInt8) (Int × (List UInt8))) := (if (decide (x51 < (32 : Int))) = true then (if (0 : Int) ≤ IntKind.wrap .i64 (x51.tdiv 4) ∧ IntKind.wrap .i64 (x51.tdiv 4) < 8 then (if (0 : Int) ≤ x51 ∧ x51 < 32 then some (.cont (IntKind.wrap .i64 (x51 + 1), x52.set x51.toNat (u8of (IntKind.wrap .u8 (shr .u32 (r47.1.getD (IntKind.wrap .i64 (x51.tdiv 4)).toNat 0) (IntKind.wrap .u64 (IntKind.wrap .i64 (24 - (IntKind.wrap .i64 (8 * (x51.tmod 4))))))))))) else none) else none) else some (.brk (x51, x52)))
def ref01_End (a_0 : List Int) (a_1 : List (UInt8)) (a_2 : Int) : Option (List UInt8) := (if ([] : List UInt8).length + a_1.length ≤ mxl ∧ (([] : List UInt8).length + a_1.length) * 1 ≤ 140737488355328 then (if (([] : List UInt8) ++ a_1).length + [u8of 128].length ≤ mxl ∧ ((([] : List UInt8) ++ a_1).length + [u8of 128].length) * 1 ≤ 140737488355328 then ((loopN (fun s : (List (UInt8)) => ref01_End.b1 s) 100000 ((([] : List UInt8) ++ a_1) ++ [u8of 128])).bind fun cr => match cr with | .ret r => some r | .next y25 => ((loopN (fun s : Int × (List (UInt8)) => ref01_End.b2 a_2 s.1 s.2) ((8 - 0 : Int).toNat + 2) (0, y25)).bind fun cr => match cr with | .ret r => some r | .next (y45, y46) => ((ref01_After a_0 y46).bind fun r47 => ((loopN (fun s : Int × (List UInt8) => ref01_End.b3 r47 s.1 s.2) ((32 - 0 : Int).toNat + 2) (0, (List.replicate 32 0))).bind fun cr => match cr with | .ret r => some r | .next (y65, y66) => some y66)))) else none) else none)
theorem ref01_End_ok {a_0 : List Int} {a_1 : List (UInt8)} {a_2 : Int} {r : (List UInt8)} (hF : ref01_End a_0 a_1 a_2 = some r) : CallOk Tryd.prog KG 60 [(aggVP [intsCk .u32 8 a_0]), (slVP bC a_1), (intVP .u64 a_2)] [] (fun _ => []) (aggVP [bytesCk 32 r]) := by
  refine CallOk.intro 65 Tryd.func60 rfl Tryd.ntmps60 (Nat.le_of_ble_eq_true rfl) ?_
  intro c a w hG hn h
  unfold ref01_End at hF
  change SatL c [.slot 0 (aggVP [intsCk .u32 8 a_0]), .slot 1 (slVP bC a_1), .slot 2 (intVP .u64 a_2)] a w at h
  refine wp_seq ?_
  refine region_do (n := 65) [.slot 3 0 100000 (fun v1_ _ => (lpVP v1_ 0)),
      .res 0 100000 (fun v1_ _ => (lb (v1_) 85 [intsCk .u32 8 a_0])),
      .slot 6 1 100000 (fun v1_ _ => (lpVP v1_ 0)),
      .res 1 100000 (fun v1_ _ => (lb (v1_) 24 [bytesCk 32 (List.replicate 32 0)]))] [0, 0, 1, 1] [⟨[0], [], [3, 4], [], some 3⟩, ⟨[], [], [5, 6], [0], some 6⟩] [1, 2, 3, 5, 4, 6] mixed hn hG h (by kernel_rfl) ?_ ?_
  · exact ⟨⟨rfl, fun β => (GOk.plain (op_box (opt 0 rfl) (cells_agg _)) rfl)⟩, ⟨rfl, fun β => (GOk.plain (op_alloc Tryd.zeroValue24 z24) rfl)⟩, trivial⟩
  clear h
  intro β a w h
  change SatL c [.slot 1 (slVP bC a_1), .slot 2 (intVP .u64 a_2), .slot 3 (lpVP (β 0) 0), .slot 6 (lpVP (β 1) 0), .res (lb (β 0) 85 [intsCk .u32 8 a_0]), .res (lb (β 1) 24 [bytesCk 32 (List.replicate 32 0)])] a w at h
  generalize β 0 = p1 at h
  generalize β 1 = p2 at h
  clear β
  show Code.wp Tryd.prog _ _ a w
  refine wp_seq ?_
  refine region_do (n := 65) [.slot 7 100000 100000 (fun _ _ => (eqVP (.slice none 0 0)))] [0] [⟨[], [], [6], [], some 7⟩] [0, 1, 2, 3, 6, 4, 5] mixed hn hG h (by kernel_rfl) ?_ ?_
  · exact ⟨⟨rfl, fun β => (GOk.plain (op_assign (opc (ec _))) rfl)⟩, trivial⟩
  clear h
  intro β a w h
  change SatL c [.slot 1 (slVP bC a_1), .slot 2 (intVP .u64 a_2), .slot 3 (lpVP p1 0), .slot 6 (lpVP p2 0), .slot 7 (eqVP (.slice none 0 0)), .res (lb p1 85 [intsCk .u32 8 a_0]), .res (lb p2 24 [bytesCk 32 (List.replicate 32 0)])] a w at h
  clear β
  show Code.wp Tryd.prog _ _ a w
  refine wp_seq ?_
  obtain ⟨q3, h⟩ : ∃ q3 : Value, SatL c [.slot 1 (slVP bC a_1), .slot 2 (intVP .u64 a_2), .slot 3 (lpVP p1 0), .slot 6 (lpVP p2 0), .slot 7 (eqVP q3), .res (lb p1 85 [intsCk .u32 8 a_0]), .res (lb p2 24 [bytesCk 32 (List.replicate 32 0)]), .res (acc q3 5 1 bC ([] : List UInt8))] a w := ⟨.slice none 0 0, (h.nilacc 5 1 bC).sub [0, 1, 2, 3, 4, 5, 6, 7] (by rfl)⟩
  obtain ⟨hv4, hF⟩ := ite_some hF
  refine region_do (n := 65) [.slot 12 100000 100000 (fun _ _ => (eqVP q3)),
      .slot 13 100000 100000 (fun _ _ => (slVP bC a_1)),
      .slot 14 2 100000 (fun v1_ _ => (eqVP v1_)),
      .res 2 100000 (fun v1_ _ => (acc (v1_) 5 1 bC (([] : List UInt8) ++ a_1))),
      .slot 7 2 100000 (fun v1_ _ => (eqVP v1_))] [0, 1, 2, 2, 3] [⟨[4], [], [8], [], some 12⟩, ⟨[0], [], [9], [0], some 13⟩, ⟨[8, 9], [7], [10, 11], [0, 1], some 14⟩, ⟨[10], [4], [12], [0, 1, 2], some 7⟩] [1, 2, 3, 12, 5, 6, 11] mixed hn hG h (by kernel_rfl) ?_ ?_
  · exact ⟨⟨rfl, fun β => (GOk.plain (op_move (opt 0 rfl)) rfl)⟩, ⟨rfl, fun β => (GOk.plain (op_move (opt 0 rfl)) rfl)⟩, ⟨rfl, fun β => (GOk.plain (op_append (i := Tryd.t5) Tryd.underlying79 Tryd.type5 rfl lens_bC (by decide) rfl (opt 0 rfl) (opt 1 rfl) hv4) rfl)⟩, ⟨rfl, fun β => (GOk.drop _ (GOk.plain (op_assign (V := (eqVP (β 2))) (opt 0 rfl)) rfl))⟩, trivial⟩
  clear h
  intro β a w h
  change SatL c [.slot 2 (intVP .u64 a_2), .slot 3 (lpVP p1 0), .slot 6 (lpVP p2 0), .slot 7 (eqVP (β 2)), .res (lb p1 85 [intsCk .u32 8 a_0]), .res (lb p2 24 [bytesCk 32 (List.replicate 32 0)]), .res (acc (β 2) 5 1 bC (([] : List UInt8) ++ a_1))] a w at h
  generalize β 2 = p5 at h
  clear β
  show Code.wp Tryd.prog _ _ a w
  refine wp_seq ?_
  obtain ⟨hv6, hF⟩ := ite_some hF
  refine region_do (n := 65) [.slot 15 100000 100000 (fun _ _ => (eqVP p5)),
      .slot 16 100000 100000 (fun _ _ => (slVP bC [u8of 128])),
      .slot 17 2 100000 (fun v1_ _ => (eqVP v1_)),
      .res 2 100000 (fun v1_ _ => (acc (v1_) 5 1 bC ((([] : List UInt8) ++ a_1) ++ [u8of 128]))),
      .slot 7 2 100000 (fun v1_ _ => (eqVP v1_))] [0, 1, 2, 2, 3] [⟨[3], [], [7], [], some 15⟩, ⟨[], [], [8], [0], some 16⟩, ⟨[7, 8], [6], [9, 10], [0, 1], some 17⟩, ⟨[9], [3], [11], [0, 1, 2], some 7⟩] [0, 1, 2, 11, 4, 5, 10] mixed hn hG h (by kernel_rfl) ?_ ?_
  · exact ⟨⟨rfl, fun β => (GOk.plain (op_move (opt 0 rfl)) rfl)⟩, ⟨rfl, fun β => (GOk.plain (op_lit (xs := [.const (.int .u8 128)]) (ys := [u8of 128]) _ rfl Tryd.underlying79 Tryd.sizeOf5 Tryd.zeroValue5 rfl rfl (by decide) (by decide) ⟨⟨_, (opc (ic (by decide))), (cells_u8 _)⟩, trivial⟩ lens_bC) rfl)⟩, ⟨rfl, fun β => (GOk.plain (op_append (i := Tryd.t5) Tryd.underlying79 Tryd.type5 rfl lens_bC (by decide) rfl (opt 0 rfl) (opt 1 rfl) hv6) rfl)⟩, ⟨rfl, fun β => (GOk.drop _ (GOk.plain (op_assign (V := (eqVP (β 2))) (opt 0 rfl)) rfl))⟩, trivial⟩
  clear h
  intro β a w h
  change SatL c [.slot 2 (intVP .u64 a_2), .slot 3 (lpVP p1 0), .slot 6 (lpVP p2 0), .slot 7 (eqVP (β 2)), .res (lb p1 85 [intsCk .u32 8 a_0]), .res (lb p2 24 [bytesCk 32 (List.replicate 32 0)]), .res (acc (β 2) 5 1 bC ((([] : List UInt8) ++ a_1) ++ [u8of 128]))] a w at h
  generalize β 2 = p7 at h
  clear β
  show Code.wp Tryd.prog _ _ a w
  refine wp_seq ?_
  refine wp_block ?_
  obtain ⟨cr21, hl22, hF⟩ := bind_some hF
  refine wp_mono (wp_loopN (R := (List UInt8)) (S := (List (UInt8))) (fun s a w => ∃ q12 : Value, SatL c [.slot 2 (intVP .u64 a_2), .slot 3 (lpVP p1 0), .slot 6 (lpVP p2 0), .slot 7 (eqVP q12), .res (lb p1 85 [intsCk .u32 8 a_0]), .res (lb p2 24 [bytesCk 32 (List.replicate 32 0)]), .res (acc q12 5 1 bC s)] a w) (fun res e a w => match res with | .next s => e = .exit 0 ∧ ∃ q12 : Value, SatL c [.slot 2 (intVP .u64 a_2), .slot 3 (lpVP p1 0), .slot 6 (lpVP p2 0), .slot 7 (eqVP q12), .res (lb p1 85 [intsCk .u32 8 a_0]), .res (lb p2 24 [bytesCk 32 (List.replicate 32 0)]), .res (acc q12 5 1 bC s)] a w | .ret r => e = .ret ∧ RetOk Tryd.prog Tryd.f60 c (aggVP [bytesCk 32 r]) (fun _ => []) a w) ?_ _ ((([] : List UInt8) ++ a_1) ++ [u8of 128]) _ _ _ ⟨p7, (h.sub [0, 1, 2, 3, 4, 5, 6] (by rfl))⟩ hl22) ?_
  · clear hl22 hF h
    intro x11 a w o h hF
    obtain ⟨q12, h⟩ := h
    change ref01_End.b1 x11 = some o at hF
    unfold ref01_End.b1 at hF
    change SatL c [.slot 2 (intVP .u64 a_2), .slot 3 (lpVP p1 0), .slot 6 (lpVP p2 0), .slot 7 (eqVP q12), .res (lb p1 85 [intsCk .u32 8 a_0]), .res (lb p2 24 [bytesCk 32 (List.replicate 32 0)]), .res (acc q12 5 1 bC x11)] a w at h
    refine wp_seq ?_
    refine wp_seq ?_
    refine region_do (n := 65) [.slot 18 100000 100000 (fun _ _ => (eqVP q12)),
      .slot 19 100000 100000 (fun _ _ => (intVP .i64 (x11.length : Int))),
      .slot 20 100000 100000 (fun _ _ => (intVP .i64 ((x11.length : Int).tmod 64))),
      .slot 21 100000 100000 (fun _ _ => (boolVP (!decide (((x11.length : Int).tmod 64) = (56 : Int)))))] [0, 1, 2, 3] [⟨[3], [], [7], [], some 18⟩, ⟨[7, 6], [], [8], [0], some 19⟩, ⟨[8], [], [9], [0, 1], some 20⟩, ⟨[9], [], [10], [0, 1, 2], some 21⟩] [0, 1, 2, 3, 10, 4, 5, 6] mixed hn hG h (by kernel_rfl) ?_ ?_
    · exact ⟨⟨rfl, fun β => (GOk.plain (op_move (opt 0 rfl)) rfl)⟩, ⟨rfl, fun β => (GOk.plain (op_len_sl Tryd.underlying79 (opacc 0 1 rfl rfl)) rfl)⟩, ⟨rfl, fun β => (GOk.plain (op_bin (bin_rem (by decide)) (opt 0 rfl) (opc (ic (by decide)))) rfl)⟩, ⟨rfl, fun β => (GOk.plain (op_bin bin_neq (opt 0 rfl) (opc (ic (by decide)))) rfl)⟩, trivial⟩
    clear h
    intro β a w h
    change SatL c [.slot 2 (intVP .u64 a_2), .slot 3 (lpVP p1 0), .slot 6 (lpVP p2 0), .slot 7 (eqVP q12), .slot 21 (boolVP (!decide (((x11.length : Int).tmod 64) = (56 : Int)))), .res (lb p1 85 [intsCk .u32 8 a_0]), .res (lb p2 24 [bytesCk 32 (List.replicate 32 0)]), .res (acc q12 5 1 bC x11)] a w at h
    clear β
    show Code.wp Tryd.prog _ _ a w
    refine cond_L h 4 rfl (fun hb18 => ?_) (fun hb18 => ?_)
    · replace hF := tt_of hb18 hF
      replace h := h.sub [0, 1, 2, 3, 5, 6, 7] (by rfl)
      change SatL c [.slot 2 (intVP .u64 a_2), .slot 3 (lpVP p1 0), .slot 6 (lpVP p2 0), .slot 7 (eqVP q12), .res (lb p1 85 [intsCk .u32 8 a_0]), .res (lb p2 24 [bytesCk 32 (List.replicate 32 0)]), .res (acc q12 5 1 bC x11)] a w at h
      refine wp_skip ?_
      show Code.wp Tryd.prog _ _ a w
      refine wp_block ?_
      obtain ⟨hv19, hF⟩ := ite_some hF
      refine region_do (n := 65) [.slot 22 100000 100000 (fun _ _ => (eqVP q12)),
      .slot 23 100000 100000 (fun _ _ => (slVP bC [u8of 0])),
      .slot 24 2 100000 (fun v1_ _ => (eqVP v1_)),
      .res 2 100000 (fun v1_ _ => (acc (v1_) 5 1 bC (x11 ++ [u8of 0]))),
      .slot 7 2 100000 (fun v1_ _ => (eqVP v1_))] [0, 1, 2, 2, 3] [⟨[3], [], [7], [], some 22⟩, ⟨[], [], [8], [0], some 23⟩, ⟨[7, 8], [6], [9, 10], [0, 1], some 24⟩, ⟨[9], [3], [11], [0, 1, 2], some 7⟩] [0, 1, 2, 11, 4, 5, 10] mixed hn hG h (by kernel_rfl) ?_ ?_
      · exact ⟨⟨rfl, fun β => (GOk.plain (op_move (opt 0 rfl)) rfl)⟩, ⟨rfl, fun β => (GOk.plain (op_lit (xs := [.const (.int .u8 0)]) (ys := [u8of 0]) _ rfl Tryd.underlying79 Tryd.sizeOf5 Tryd.zeroValue5 rfl rfl (by decide) (by decide) ⟨⟨_, (opc (ic (by decide))), (cells_u8 _)⟩, trivial⟩ lens_bC) rfl)⟩, ⟨rfl, fun β => (GOk.plain (op_append (i := Tryd.t5) Tryd.underlying79 Tryd.type5 rfl lens_bC (by decide) rfl (opt 0 rfl) (opt 1 rfl) hv19) rfl)⟩, ⟨rfl, fun β => (GOk.drop _ (GOk.plain (op_assign (V := (eqVP (β 2))) (opt 0 rfl)) rfl))⟩, trivial⟩
      clear h
      intro β a w h
      change SatL c [.slot 2 (intVP .u64 a_2), .slot 3 (lpVP p1 0), .slot 6 (lpVP p2 0), .slot 7 (eqVP (β 2)), .res (lb p1 85 [intsCk .u32 8 a_0]), .res (lb p2 24 [bytesCk 32 (List.replicate 32 0)]), .res (acc (β 2) 5 1 bC (x11 ++ [u8of 0]))] a w at h
      generalize β 2 = p20 at h
      clear β
      obtain rfl := Option.some.inj hF
      exact ⟨rfl, p20, h.sub [0, 1, 2, 3, 4, 5, 6] (by rfl)⟩
    · replace hF := ff_of hb18 hF
      replace h := h.sub [0, 1, 2, 3, 5, 6, 7] (by rfl)
      change SatL c [.slot 2 (intVP .u64 a_2), .slot 3 (lpVP p1 0), .slot 6 (lpVP p2 0), .slot 7 (eqVP q12), .res (lb p1 85 [intsCk .u32 8 a_0]), .res (lb p2 24 [bytesCk 32 (List.replicate 32 0)]), .res (acc q12 5 1 bC x11)] a w at h
      refine wp_exit ?_
      obtain rfl := Option.some.inj hF
      exact ⟨exit_ne _, rfl, q12, h.sub [0, 1, 2, 3, 4, 5, 6] (by rfl)⟩
  · clear hl22
    intro e a w hq
    cases cr21 with
    | ret r23 =>
      obtain ⟨rfl, hq⟩ := hq
      obtain rfl := Option.some.inj hF
      exact ⟨.inl rfl, hq⟩
    | next y25 =>
      obtain ⟨rfl, q12, h⟩ := hq
      change SatL c [.slot 2 (intVP .u64 a_2), .slot 3 (lpVP p1 0), .slot 6 (lpVP p2 0), .slot 7 (eqVP q12), .res (lb p1 85 [intsCk .u32 8 a_0]), .res (lb p2 24 [bytesCk 32 (List.replicate 32 0)]), .res (acc q12 5 1 bC y25)] a w at h
      refine inBlock_at ?_
      show Code.wp Tryd.prog _ _ a w
      refine wp_seq ?_
      refine region_do (n := 65) [.slot 25 100000 100000 (fun _ _ => (intVP .u64 a_2)),
      .slot 26 100000 100000 (fun _ _ => (intVP .u64 (IntKind.wrap .u64 (8 * a_2)))),
      .slot 8 100000 100000 (fun _ _ => (intVP .u64 (IntKind.wrap .u64 (8 * a_2))))] [0, 1, 2] [⟨[0], [], [7], [], some 25⟩, ⟨[7], [], [8], [0], some 26⟩, ⟨[8], [], [9], [0, 1], some 8⟩] [1, 2, 3, 9, 4, 5, 6] mixed hn hG h (by kernel_rfl) ?_ ?_
      · exact ⟨⟨rfl, fun β => (GOk.plain (op_move (opt 0 rfl)) rfl)⟩, ⟨rfl, fun β => (GOk.plain (op_bin bin_mul (opc (ic (by decide))) (opt 0 rfl)) rfl)⟩, ⟨rfl, fun β => (GOk.plain (op_assign (opt 0 rfl)) rfl)⟩, trivial⟩
      clear h
      intro β a w h
      change SatL c [.slot 3 (lpVP p1 0), .slot 6 (lpVP p2 0), .slot 7 (eqVP q12), .slot 8 (intVP .u64 (IntKind.wrap .u64 (8 * a_2))), .res (lb p1 85 [intsCk .u32 8 a_0]), .res (lb p2 24 [bytesCk 32 (List.replicate 32 0)]), .res (acc q12 5 1 bC y25)] a w at h
      clear β
      show Code.wp Tryd.prog _ _ a w
      refine wp_seq ?_
      refine wp_seq ?_
      refine region_do (n := 65) [.slot 9 100000 100000 (fun _ _ => (intVP .i64 0))] [0] [⟨[], [], [7], [], some 9⟩] [0, 1, 2, 3, 7, 4, 5, 6] mixed hn hG h (by kernel_rfl) ?_ ?_
      · exact ⟨⟨rfl, fun β => (GOk.plain (op_assign (opc (ic (by decide)))) rfl)⟩, trivial⟩
      clear h
      intro β a w h
      change SatL c [.slot 3 (lpVP p1 0), .slot 6 (lpVP p2 0), .slot 7 (eqVP q12), .slot 8 (intVP .u64 (IntKind.wrap .u64 (8 * a_2))), .slot 9 (intVP .i64 0), .res (lb p1 85 [intsCk .u32 8 a_0]), .res (lb p2 24 [bytesCk 32 (List.replicate 32 0)]), .res (acc q12 5 1 bC y25)] a w at h
      clear β
      show Code.wp Tryd.prog _ _ a w
      refine wp_block ?_
      obtain ⟨cr41, hl42, hF⟩ := bind_some hF
      refine wp_mono (wp_loopN (R := (List UInt8)) (S := Int × (List (UInt8))) (fun s a w => ∃ q31 : Value, SatL c [.slot 3 (lpVP p1 0), .slot 6 (lpVP p2 0), .slot 7 (eqVP q31), .slot 8 (intVP .u64 (IntKind.wrap .u64 (8 * a_2))), .slot 9 (intVP .i64 s.1), .res (lb p1 85 [intsCk .u32 8 a_0]), .res (lb p2 24 [bytesCk 32 (List.replicate 32 0)]), .res (acc q31 5 1 bC s.2)] a w) (fun res e a w => match res with | .next s => e = .exit 2 ∧ ∃ q31 : Value, SatL c [.slot 3 (lpVP p1 0), .slot 6 (lpVP p2 0), .slot 7 (eqVP q31), .res (lb p1 85 [intsCk .u32 8 a_0]), .res (lb p2 24 [bytesCk 32 (List.replicate 32 0)]), .res (acc q31 5 1 bC s.2)] a w | .ret r => e = .ret ∧ RetOk Tryd.prog Tryd.f60 c (aggVP [bytesCk 32 r]) (fun _ => []) a w) ?_ _ (0, y25) _ _ _ ⟨q12, (h.sub [0, 1, 2, 3, 4, 5, 6, 7] (by rfl))⟩ hl42) ?_
      · clear hl42 hF h
        intro s a w o h hF
        obtain ⟨x29, x30⟩ := s
        obtain ⟨q31, h⟩ := h
        change ref01_End.b2 a_2 x29 x30 = some o at hF
        unfold ref01_End.b2 at hF
        change SatL c [.slot 3 (lpVP p1 0), .slot 6 (lpVP p2 0), .slot 7 (eqVP q31), .slot 8 (intVP .u64 (IntKind.wrap .u64 (8 * a_2))), .slot 9 (intVP .i64 x29), .res (lb p1 85 [intsCk .u32 8 a_0]), .res (lb p2 24 [bytesCk 32 (List.replicate 32 0)]), .res (acc q31 5 1 bC x30)] a w at h
        refine wp_seq ?_
        refine wp_seq ?_
        refine region_do (n := 65) [.slot 27 100000 100000 (fun _ _ => (intVP .i64 x29)),
      .slot 28 100000 100000 (fun _ _ => (boolVP (decide (x29 < (8 : Int)))))] [0, 1] [⟨[4], [], [8], [], some 27⟩, ⟨[8], [], [9], [0], some 28⟩] [0, 1, 2, 3, 4, 9, 5, 6, 7] mixed hn hG h (by kernel_rfl) ?_ ?_
        · exact ⟨⟨rfl, fun β => (GOk.plain (op_move (opt 0 rfl)) rfl)⟩, ⟨rfl, fun β => (GOk.plain (op_bin bin_lss (opt 0 rfl) (opc (ic (by decide)))) rfl)⟩, trivial⟩
        clear h
        intro β a w h
        change SatL c [.slot 3 (lpVP p1 0), .slot 6 (lpVP p2 0), .slot 7 (eqVP q31), .slot 8 (intVP .u64 (IntKind.wrap .u64 (8 * a_2))), .slot 9 (intVP .i64 x29), .slot 28 (boolVP (decide (x29 < (8 : Int)))), .res (lb p1 85 [intsCk .u32 8 a_0]), .res (lb p2 24 [bytesCk 32 (List.replicate 32 0)]), .res (acc q31 5 1 bC x30)] a w at h
        clear β
        show Code.wp Tryd.prog _ _ a w
        refine cond_L h 5 rfl (fun hb38 => ?_) (fun hb38 => ?_)
        · replace hF := tt_of hb38 hF
          replace h := h.sub [0, 1, 2, 3, 4, 6, 7, 8] (by rfl)
          change SatL c [.slot 3 (lpVP p1 0), .slot 6 (lpVP p2 0), .slot 7 (eqVP q31), .slot 8 (intVP .u64 (IntKind.wrap .u64 (8 * a_2))), .slot 9 (intVP .i64 x29), .res (lb p1 85 [intsCk .u32 8 a_0]), .res (lb p2 24 [bytesCk 32 (List.replicate 32 0)]), .res (acc q31 5 1 bC x30)] a w at h
          refine wp_skip ?_
          show Code.wp Tryd.prog _ _ a w
          refine wp_seq ?_
          refine wp_block ?_
          obtain ⟨hv39, hF⟩ := ite_some hF
          refine region_do (n := 65) [.slot 31 100000 100000 (fun _ _ => (eqVP q31)),
      .slot 32 100000 100000 (fun _ _ => (intVP .u64 (IntKind.wrap .u64 (8 * a_2)))),
      .slot 33 100000 100000 (fun _ _ => (intVP .i64 x29)),
      .slot 34 100000 100000 (fun _ _ => (intVP .i64 (IntKind.wrap .i64 (8 * x29)))),
      .slot 35 100000 100000 (fun _ _ => (intVP .i64 (IntKind.wrap .i64 (56 - (IntKind.wrap .i64 (8 * x29)))))),
      .slot 36 100000 100000 (fun _ _ => (intVP .u64 (IntKind.wrap .u64 (IntKind.wrap .i64 (56 - (IntKind.wrap .i64 (8 * x29))))))),
      .slot 37 100000 100000 (fun _ _ => (intVP .u64 (shr .u64 (IntKind.wrap .u64 (8 * a_2)) (IntKind.wrap .u64 (IntKind.wrap .i64 (56 - (IntKind.wrap .i64 (8 * x29)))))))),
      .slot 38 100000 100000 (fun _ _ => (intVP .u8 (IntKind.wrap .u8 (shr .u64 (IntKind.wrap .u64 (8 * a_2)) (IntKind.wrap .u64 (IntKind.wrap .i64 (56 - (IntKind.wrap .i64 (8 * x29))))))))),
      .slot 39 100000 100000 (fun _ _ => (slVP bC [u8of (IntKind.wrap .u8 (shr .u64 (IntKind.wrap .u64 (8 * a_2)) (IntKind.wrap .u64 (IntKind.wrap .i64 (56 - (IntKind.wrap .i64 (8 * x29)))))))])),
      .slot 40 9 100000 (fun v1_ _ => (eqVP v1_)),
      .res 9 100000 (fun v1_ _ => (acc (v1_) 5 1 bC (x30 ++ [u8of (IntKind.wrap .u8 (shr .u64 (IntKind.wrap .u64 (8 * a_2)) (IntKind.wrap .u64 (IntKind.wrap .i64 (56 - (IntKind.wrap .i64 (8 * x29)))))))]))),
      .slot 7 9 100000 (fun v1_ _ => (eqVP v1_))] [0, 1, 2, 3, 4, 5, 6, 7, 8, 9, 9, 10] [⟨[2], [], [8], [], some 31⟩, ⟨[3], [], [9], [0], some 32⟩, ⟨[4], [], [10], [0, 1], some 33⟩, ⟨[10], [], [11], [0, 1, 2], some 34⟩, ⟨[11], [], [12], [0, 1, 2, 3], some 35⟩, ⟨[12], [], [13], [0, 1, 2, 3, 4], some 36⟩, ⟨[9, 13], [], [14], [0, 1, 2, 3, 4, 5], some 37⟩, ⟨[14], [], [15], [0, 1, 2, 3, 4, 5, 6], some 38⟩, ⟨[15], [], [16], [0, 1, 2, 3, 4, 5, 6, 7], some 39⟩, ⟨[8, 16], [7], [17, 18], [0, 1, 2, 3, 4, 5, 6, 7, 8], some 40⟩, ⟨[17], [2], [19], [0, 1, 2, 3, 4, 5, 6, 7, 8, 9], some 7⟩] [0, 1, 19, 3, 4, 5, 6, 18] mixed hn hG h (by kernel_rfl) ?_ ?_
          · exact ⟨⟨rfl, fun β => (GOk.plain (op_move (opt 0 rfl)) rfl)⟩, ⟨rfl, fun β => (GOk.plain (op_move (opt 0 rfl)) rfl)⟩, ⟨rfl, fun β => (GOk.plain (op_move (opt 0 rfl)) rfl)⟩, ⟨rfl, fun β => (GOk.plain (op_bin bin_mul (opc (ic (by decide))) (opt 0 rfl)) rfl)⟩, ⟨rfl, fun β => (GOk.plain (op_bin bin_sub (opc (ic (by decide))) (opt 0 rfl)) rfl)⟩, ⟨rfl, fun β => (GOk.plain (op_convert_int Tryd.underlying3 Tryd.underlying57 (opt 0 rfl)) rfl)⟩, ⟨rfl, fun β => (GOk.plain (op_bin (bin_shru rfl) (opt 0 rfl) (opt 1 rfl)) rfl)⟩, ⟨rfl, fun β => (GOk.plain (op_convert_int Tryd.underlying84 Tryd.underlying5 (opt 0 rfl)) rfl)⟩, ⟨rfl, fun β => (GOk.plain (op_lit (xs := [.tmp 38]) (ys := [u8of (IntKind.wrap .u8 (shr .u64 (IntKind.wrap .u64 (8 * a_2)) (IntKind.wrap .u64 (IntKind.wrap .i64 (56 - (IntKind.wrap .i64 (8 * x29)))))))]) _ rfl Tryd.underlying79 Tryd.sizeOf5 Tryd.zeroValue5 rfl rfl (by decide) (by decide) ⟨⟨_, (opt 0 rfl), (cells_u8 _)⟩, trivial⟩ lens_bC) rfl)⟩, ⟨rfl, fun β => (GOk.plain (op_append (i := Tryd.t5) Tryd.underlying79 Tryd.type5 rfl lens_bC (by decide) rfl (opt 0 rfl) (opt 1 rfl) hv39) rfl)⟩, ⟨rfl, fun β => (GOk.drop _ (GOk.plain (op_assign (V := (eqVP (β 9))) (opt 0 rfl)) rfl))⟩, trivial⟩
          clear h
          intro β a w h
          change SatL c [.slot 3 (lpVP p1 0), .slot 6 (lpVP p2 0), .slot 7 (eqVP (β 9)), .slot 8 (intVP .u64 (IntKind.wrap .u64 (8 * a_2))), .slot 9 (intVP .i64 x29), .res (lb p1 85 [intsCk .u32 8 a_0]), .res (lb p2 24 [bytesCk 32 (List.replicate 32 0)]), .res (acc (β 9) 5 1 bC (x30 ++ [u8of (IntKind.wrap .u8 (shr .u64 (IntKind.wrap .u64 (8 * a_2)) (IntKind.wrap .u64 (IntKind.wrap .i64 (56 - (IntKind.wrap .i64 (8 * x29)))))))]))] a w at h
          generalize β 9 = p40 at h
          clear β
          show Code.wp Tryd.prog _ _ a w
          refine region_do (n := 65) [.slot 29 100000 100000 (fun _ _ => (intVP .i64 x29)),
      .slot 30 100000 100000 (fun _ _ => (intVP .i64 (IntKind.wrap .i64 (x29 + 1)))),
      .slot 9 100000 100000 (fun _ _ => (intVP .i64 (IntKind.wrap .i64 (x29 + 1))))] [0, 1, 2] [⟨[4], [], [8], [], some 29⟩, ⟨[8], [], [9], [0], some 30⟩, ⟨[9], [4], [10], [0, 1], some 9⟩] [0, 1, 2, 3, 10, 5, 6, 7] mixed hn hG h (by kernel_rfl) ?_ ?_
          · exact ⟨⟨rfl, fun β => (GOk.plain (op_move (opt 0 rfl)) rfl)⟩, ⟨rfl, fun β => (GOk.plain (op_bin bin_add (opt 0 rfl) (opc (ic (by decide)))) rfl)⟩, ⟨rfl, fun β => (GOk.drop _ (GOk.plain (op_assign (opt 0 rfl)) rfl))⟩, trivial⟩
          clear h
          intro β a w h
          change SatL c [.slot 3 (lpVP p1 0), .slot 6 (lpVP p2 0), .slot 7 (eqVP p40), .slot 8 (intVP .u64 (IntKind.wrap .u64 (8 * a_2))), .slot 9 (intVP .i64 (IntKind.wrap .i64 (x29 + 1))), .res (lb p1 85 [intsCk .u32 8 a_0]), .res (lb p2 24 [bytesCk 32 (List.replicate 32 0)]), .res (acc p40 5 1 bC (x30 ++ [u8of (IntKind.wrap .u8 (shr .u64 (IntKind.wrap .u64 (8 * a_2)) (IntKind.wrap .u64 (IntKind.wrap .i64 (56 - (IntKind.wrap .i64 (8 * x29)))))))]))] a w at h
          clear β
          obtain rfl := Option.some.inj hF
          exact ⟨rfl, p40, h.sub [0, 1, 2, 3, 4, 5, 6, 7] (by rfl)⟩
        · replace hF := ff_of hb38 hF
          replace h := h.sub [0, 1, 2, 3, 4, 6, 7, 8] (by rfl)
          change SatL c [.slot 3 (lpVP p1 0), .slot 6 (lpVP p2 0), .slot 7 (eqVP q31), .slot 8 (intVP .u64 (IntKind.wrap .u64 (8 * a_2))), .slot 9 (intVP .i64 x29), .res (lb p1 85 [intsCk .u32 8 a_0]), .res (lb p2 24 [bytesCk 32 (List.replicate 32 0)]), .res (acc q31 5 1 bC x30)] a w at h
          refine wp_exit ?_
          obtain rfl := Option.some.inj hF
          exact ⟨exit_ne _, rfl, q31, h.sub [0, 1, 2, 5, 6, 7] (by rfl)⟩
      · clear hl42
        intro e a w hq
        cases cr41 with
        | ret r43 =>
          obtain ⟨rfl, hq⟩ := hq
          obtain rfl := Option.some.inj hF
          exact ⟨.inl rfl, hq⟩
        | next s44 =>
          obtain ⟨y45, y46⟩ := s44
          obtain ⟨rfl, q31, h⟩ := hq
          change SatL c [.slot 3 (lpVP p1 0), .slot 6 (lpVP p2 0), .slot 7 (eqVP q31), .res (lb p1 85 [intsCk .u32 8 a_0]), .res (lb p2 24 [bytesCk 32 (List.replicate 32 0)]), .res (acc q31 5 1 bC y46)] a w at h
          refine inBlock_at ?_
          show Code.wp Tryd.prog _ _ a w
          refine wp_seq ?_
          obtain ⟨r47, hr47, hF⟩ := bind_some hF
          refine region_do (n := 65) [.slot 42 100000 100000 (fun _ _ => (aggVP [intsCk .u32 8 a_0])),
      .slot 43 100000 100000 (fun _ _ => (eqVP q31)),
      .slot 44 100000 100000 (fun _ _ => (tupVP [(aggVP [intsCk .u32 8 r47.1]), (slVP bC r47.2)])),
      .slot 41 100000 100000 (fun _ _ => (tupVP [(aggVP [intsCk .u32 8 r47.1]), (slVP bC r47.2)])),
      .slot 45 100000 100000 (fun _ _ => (aggVP [intsCk .u32 8 r47.1])),
      .slot 46 100000 100000 (fun _ _ => (slVP bC r47.2)),
      .res 100000 100000 (fun _ _ => (lb p1 85 [intsCk .u32 8 r47.1]))] [0, 1, 2, 3, 4, 5, 6] [⟨[0, 3], [], [6], [], some 42⟩, ⟨[2], [], [7], [0], some 43⟩, ⟨[6, 7, 5], [], [8], [0, 1], some 44⟩, ⟨[8], [], [9], [0, 1, 2], some 41⟩, ⟨[9], [], [10], [0, 1, 2, 3], some 45⟩, ⟨[9], [], [11], [0, 1, 2, 3, 4], some 46⟩, ⟨[0, 10], [3], [12], [0, 1, 2, 3, 4, 5], none⟩] [0, 1, 12, 4] mixed hn hG h (by kernel_rfl) ?_ ?_
          · exact ⟨⟨rfl, fun β => (GOk.plain (op_load_lb [] [intsCk .u32 8 a_0] [] 1 Tryd.isAgg85 Tryd.sizeOf85 (opt 0 rfl) rfl rfl rfl) rfl)⟩, ⟨rfl, fun β => (GOk.plain (op_move (opt 0 rfl)) rfl)⟩, ⟨rfl, fun β => (GOk.plain (op_call Tryd.call58 (ref01_After_ok hr47) ⟨(opt 0 rfl), (opacc 1 2 rfl rfl), trivial⟩) rfl)⟩, ⟨rfl, fun β => (GOk.plain (op_move (opt 0 rfl)) rfl)⟩, ⟨rfl, fun β => (GOk.plain (op_extract (opt 0 rfl) rfl) rfl)⟩, ⟨rfl, fun β => (GOk.plain (op_extract (opt 0 rfl) rfl) rfl)⟩, ⟨rfl, fun β => (GOk.plain (op_store_lb [] [intsCk .u32 8 a_0] [] [intsCk .u32 8 r47.1] Tryd.sizeOf85 (opt 0 rfl) (opt 1 rfl) (cells_agg _) rfl rfl rfl) rfl)⟩, trivial⟩
          clear h
          intro β a w h
          change SatL c [.slot 3 (lpVP p1 0), .slot 6 (lpVP p2 0), .res (lb p1 85 [intsCk .u32 8 r47.1]), .res (lb p2 24 [bytesCk 32 (List.replicate 32 0)])] a w at h
          clear β
          show Code.wp Tryd.prog _ _ a w
          refine wp_seq ?_
          refine region_do (n := 65) [.slot 10 0 100000 (fun v1_ _ => (lpVP v1_ 0)),
      .res 0 100000 (fun v1_ _ => (lb (v1_) 24 [bytesCk 32 (List.replicate 32 0)]))] [0, 0] [⟨[], [], [4, 5], [], some 10⟩] [0, 1, 4, 2, 3, 5] mixed hn hG h (by kernel_rfl) ?_ ?_
          · exact ⟨⟨rfl, fun β => (GOk.plain (op_alloc Tryd.zeroValue24 z24) rfl)⟩, trivial⟩
          clear h
          intro β a w h
          change SatL c [.slot 3 (lpVP p1 0), .slot 6 (lpVP p2 0), .slot 10 (lpVP (β 0) 0), .res (lb p1 85 [intsCk .u32 8 r47.1]), .res (lb p2 24 [bytesCk 32 (List.replicate 32 0)]), .res (lb (β 0) 24 [bytesCk 32 (List.replicate 32 0)])] a w at h
          generalize β 0 = p48 at h
          clear β
          show Code.wp Tryd.prog _ _ a w
          refine wp_seq ?_
          refine wp_seq ?_
          refine region_do (n := 65) [.slot 11 100000 100000 (fun _ _ => (intVP .i64 0))] [0] [⟨[], [], [6], [], some 11⟩] [0, 1, 2, 6, 3, 4, 5] mixed hn hG h (by kernel_rfl) ?_ ?_
          · exact ⟨⟨rfl, fun β => (GOk.plain (op_assign (opc (ic (by decide)))) rfl)⟩, trivial⟩
          clear h
          intro β a w h
          change SatL c [.slot 3 (lpVP p1 0), .slot 6 (lpVP p2 0), .slot 10 (lpVP p48 0), .slot 11 (intVP .i64 0), .res (lb p1 85 [intsCk .u32 8 r47.1]), .res (lb p2 24 [bytesCk 32 (List.replicate 32 0)]), .res (lb p48 24 [bytesCk 32 (List.replicate 32 0)])] a w at h
          clear β
          show Code.wp Tryd.prog _ _ a w
          refine wp_block ?_
          obtain ⟨cr61, hl62, hF⟩ := bind_some hF
          refine wp_mono (wp_loopN (R := (List UInt8)) (S := Int × (List UInt8)) (fun s a w => SatL c [.slot 3 (lpVP p1 0), .slot 6 (lpVP p2 0), .slot 10 (lpVP p48 0), .slot 11 (intVP .i64 s.1), .res (lb p1 85 [intsCk .u32 8 r47.1]), .res (lb p2 24 [bytesCk 32 (List.replicate 32 0)]), .res (lb p48 24 [bytesCk 32 s.2])] a w) (fun res e a w => match res with | .next s => e = .exit 4 ∧ SatL c [.slot 6 (lpVP p2 0), .slot 10 (lpVP p48 0), .res (lb p2 24 [bytesCk 32 (List.replicate 32 0)]), .res (lb p48 24 [bytesCk 32 s.2])] a w | .ret r => e = .ret ∧ RetOk Tryd.prog Tryd.f60 c (aggVP [bytesCk 32 r]) (fun _ => []) a w) ?_ _ (0, (List.replicate 32 0)) _ _ _ (h.sub [0, 1, 2, 3, 4, 5, 6] (by rfl)) hl62) ?_
          · clear hl62 hF h
            intro s a w o h hF
            obtain ⟨x51, x52⟩ := s
            change ref01_End.b3 r47 x51 x52 = some o at hF
            unfold ref01_End.b3 at hF
            change SatL c [.slot 3 (lpVP p1 0), .slot 6 (lpVP p2 0), .slot 10 (lpVP p48 0), .slot 11 (intVP .i64 x51), .res (lb p1 85 [intsCk .u32 8 r47.1]), .res (lb p2 24 [bytesCk 32 (List.replicate 32 0)]), .res (lb p48 24 [bytesCk 32 x52])] a w at h
            refine wp_seq ?_
            refine wp_seq ?_
            refine region_do (n := 65) [.slot 47 100000 100000 (fun _ _ => (intVP .i64 x51)),
      .slot 48 100000 100000 (fun _ _ => (boolVP (decide (x51 < (32 : Int)))))] [0, 1] [⟨[3], [], [7], [], some 47⟩, ⟨[7], [], [8], [0], some 48⟩] [0, 1, 2, 3, 8, 4, 5, 6] mixed hn hG h (by kernel_rfl) ?_ ?_
            · exact ⟨⟨rfl, fun β => (GOk.plain (op_move (opt 0 rfl)) rfl)⟩, ⟨rfl, fun β => (GOk.plain (op_bin bin_lss (opt 0 rfl) (opc (ic (by decide)))) rfl)⟩, trivial⟩
            clear h
            intro β a w h
            change SatL c [.slot 3 (lpVP p1 0), .slot 6 (lpVP p2 0), .slot 10 (lpVP p48 0), .slot 11 (intVP .i64 x51), .slot 48 (boolVP (decide (x51 < (32 : Int)))), .res (lb p1 85 [intsCk .u32 8 r47.1]), .res (lb p2 24 [bytesCk 32 (List.replicate 32 0)]), .res (lb p48 24 [bytesCk 32 x52])] a w at h
            clear β
            show Code.wp Tryd.prog _ _ a w
            refine cond_L h 4 rfl (fun hb58 => ?_) (fun hb58 => ?_)
            · replace hF := tt_of hb58 hF
              replace h := h.sub [0, 1, 2, 3, 5, 6, 7] (by rfl)
              change SatL c [.slot 3 (lpVP p1 0), .slot 6 (lpVP p2 0), .slot 10 (lpVP p48 0), .slot 11 (intVP .i64 x51), .res (lb p1 85 [intsCk .u32 8 r47.1]), .res (lb p2 24 [bytesCk 32 (List.replicate 32 0)]), .res (lb p48 24 [bytesCk 32 x52])] a w at h
              refine wp_skip ?_
              show Code.wp Tryd.prog _ _ a w
              refine wp_seq ?_
              refine wp_block ?_
              obtain ⟨hv59, hF⟩ := ite_some hF
              obtain ⟨hv60, hF⟩ := ite_some hF
              refine region_do (n := 65) [.slot 51 100000 100000 (fun _ _ => (intVP .i64 x51)),
      .slot 52 100000 100000 (fun _ _ => (intVP .i64 x51)),
      .slot 53 100000 100000 (fun _ _ => (intVP .i64 (IntKind.wrap .i64 (x51.tdiv 4)))),
      .slot 54 100000 100000 (fun _ _ => (lpVP p1 (0 + (IntKind.wrap .i64 (x51.tdiv 4)).toNat * 1))),
      .slot 55 100000 100000 (fun _ _ => (intVP .u32 (r47.1.getD (IntKind.wrap .i64 (x51.tdiv 4)).toNat 0))),
      .slot 56 100000 100000 (fun _ _ => (intVP .i64 x51)),
      .slot 57 100000 100000 (fun _ _ => (intVP .i64 (x51.tmod 4))),
      .slot 58 100000 100000 (fun _ _ => (intVP .i64 (IntKind.wrap .i64 (8 * (x51.tmod 4))))),
      .slot 59 100000 100000 (fun _ _ => (intVP .i64 (IntKind.wrap .i64 (24 - (IntKind.wrap .i64 (8 * (x51.tmod 4))))))),
      .slot 60 100000 100000 (fun _ _ => (intVP .u64 (IntKind.wrap .u64 (IntKind.wrap .i64 (24 - (IntKind.wrap .i64 (8 * (x51.tmod 4)))))))),
      .slot 61 100000 100000 (fun _ _ => (intVP .u32 (shr .u32 (r47.1.getD (IntKind.wrap .i64 (x51.tdiv 4)).toNat 0) (IntKind.wrap .u64 (IntKind.wrap .i64 (24 - (IntKind.wrap .i64 (8 * (x51.tmod 4))))))))),
      .slot 62 100000 100000 (fun _ _ => (intVP .u8 (IntKind.wrap .u8 (shr .u32 (r47.1.getD (IntKind.wrap .i64 (x51.tdiv 4)).toNat 0) (IntKind.wrap .u64 (IntKind.wrap .i64 (24 - (IntKind.wrap .i64 (8 * (x51.tmod 4)))))))))),
      .slot 63 100000 100000 (fun _ _ => (lpVP p48 (0 + x51.toNat * 1))),
      .res 100000 100000 (fun _ _ => (lb p48 24 [bytesCk 32 (x52.set x51.toNat (u8of (IntKind.wrap .u8 (shr .u32 (r47.1.getD (IntKind.wrap .i64 (x51.tdiv 4)).toNat 0) (IntKind.wrap .u64 (IntKind.wrap .i64 (24 - (IntKind.wrap .i64 (8 * (x51.tmod 4))))))))))]))] [0, 1, 2, 3, 4, 5, 6, 7, 8, 9, 10, 11, 12, 13] [⟨[3], [], [7], [], some 51⟩, ⟨[3], [], [8], [0], some 52⟩, ⟨[8], [], [9], [0, 1], some 53⟩, ⟨[0, 9], [], [10], [0, 1, 2], some 54⟩, ⟨[10, 4], [], [11], [0, 1, 2, 3], some 55⟩, ⟨[3], [], [12], [0, 1, 2, 3, 4], some 56⟩, ⟨[12], [], [13], [0, 1, 2, 3, 4, 5], some 57⟩, ⟨[13], [], [14], [0, 1, 2, 3, 4, 5, 6], some 58⟩, ⟨[14], [], [15], [0, 1, 2, 3, 4, 5, 6, 7], some 59⟩, ⟨[15], [], [16], [0, 1, 2, 3, 4, 5, 6, 7, 8], some 60⟩, ⟨[11, 16], [], [17], [0, 1, 2, 3, 4, 5, 6, 7, 8, 9], some 61⟩, ⟨[17], [], [18], [0, 1, 2, 3, 4, 5, 6, 7, 8, 9, 10], some 62⟩, ⟨[2, 7], [], [19], [0, 1, 2, 3, 4, 5, 6, 7, 8, 9, 10, 11], some 63⟩, ⟨[19, 18], [6], [20], [0, 1, 2, 3, 4, 5, 6, 7, 8, 9, 10, 11, 12], none⟩] [0, 1, 2, 3, 4, 5, 20] mixed hn hG h (by kernel_rfl) ?_ ?_
              · exact ⟨⟨rfl, fun β => (GOk.plain (op_move (opt 0 rfl)) rfl)⟩, ⟨rfl, fun β => (GOk.plain (op_move (opt 0 rfl)) rfl)⟩, ⟨rfl, fun β => (GOk.plain (op_bin (bin_quo (by decide)) (opt 0 rfl) (opc (ic (by decide)))) rfl)⟩, ⟨rfl, fun β => (GOk.plain (op_indexAddr_lb Tryd.underlying85 Tryd.sizeOf81 (opt 0 rfl) (opt 1 rfl) hv59) rfl)⟩, ⟨rfl, fun β => (GOk.plain (op_load_lbI (i := IntKind.wrap .i64 (x51.tdiv 4)) [] [] 1 Tryd.isAgg81 (opt 0 rfl) rfl rfl hv59) rfl)⟩, ⟨rfl, fun β => (GOk.plain (op_move (opt 0 rfl)) rfl)⟩, ⟨rfl, fun β => (GOk.plain (op_bin (bin_rem (by decide)) (opt 0 rfl) (opc (ic (by decide)))) rfl)⟩, ⟨rfl, fun β => (GOk.plain (op_bin bin_mul (opc (ic (by decide))) (opt 0 rfl)) rfl)⟩, ⟨rfl, fun β => (GOk.plain (op_bin bin_sub (opc (ic (by decide))) (opt 0 rfl)) rfl)⟩, ⟨rfl, fun β => (GOk.plain (op_convert_int Tryd.underlying3 Tryd.underlying57 (opt 0 rfl)) rfl)⟩, ⟨rfl, fun β => (GOk.plain (op_bin (bin_shru rfl) (opt 0 rfl) (opt 1 rfl)) rfl)⟩, ⟨rfl, fun β => (GOk.plain (op_convert_int Tryd.underlying81 Tryd.underlying5 (opt 0 rfl)) rfl)⟩, ⟨rfl, fun β => (GOk.plain (op_indexAddr_lb Tryd.underlying24 Tryd.sizeOf5 (opt 0 rfl) (opt 1 rfl) hv60) rfl)⟩, ⟨rfl, fun β => (GOk.plain (op_store_lbB (i := x51) [] [] Tryd.sizeOf5 (opt 0 rfl) (opt 1 rfl) rfl hv60) rfl)⟩, trivial⟩
              clear h
              intro β a w h
              change SatL c [.slot 3 (lpVP p1 0), .slot 6 (lpVP p2 0), .slot 10 (lpVP p48 0), .slot 11 (intVP .i64 x51), .res (lb p1 85 [intsCk .u32 8 r47.1]), .res (lb p2 24 [bytesCk 32 (List.replicate 32 0)]), .res (lb p48 24 [bytesCk 32 (x52.set x51.toNat (u8of (IntKind.wrap .u8 (shr .u32 (r47.1.getD (IntKind.wrap .i64 (x51.tdiv 4)).toNat 0) (IntKind.wrap .u64 (IntKind.wrap .i64 (24 - (IntKind.wrap .i64 (8 * (x51.tmod 4))))))))))])] a w at h
              clear β
              show Code.wp Tryd.prog _ _ a w
              refine region_do (n := 65) [.slot 49 100000 100000 (fun _ _ => (intVP .i64 x51)),
      .slot 50 100000 100000 (fun _ _ => (intVP .i64 (IntKind.wrap .i64 (x51 + 1)))),
      .slot 11 100000 100000 (fun _ _ => (intVP .i64 (IntKind.wrap .i64 (x51 + 1))))] [0, 1, 2] [⟨[3], [], [7], [], some 49⟩, ⟨[7], [], [8], [0], some 50⟩, ⟨[8], [3], [9], [0, 1], some 11⟩] [0, 1, 2, 9, 4, 5, 6] mixed hn hG h (by kernel_rfl) ?_ ?_
              · exact ⟨⟨rfl, fun β => (GOk.plain (op_move (opt 0 rfl)) rfl)⟩, ⟨rfl, fun β => (GOk.plain (op_bin bin_add (opt 0 rfl) (opc (ic (by decide)))) rfl)⟩, ⟨rfl, fun β => (GOk.drop _ (GOk.plain (op_assign (opt 0 rfl)) rfl))⟩, trivial⟩
              clear h
              intro β a w h
              change SatL c [.slot 3 (lpVP p1 0), .slot 6 (lpVP p2 0), .slot 10 (lpVP p48 0), .slot 11 (intVP .i64 (IntKind.wrap .i64 (x51 + 1))), .res (lb p1 85 [intsCk .u32 8 r47.1]), .res (lb p2 24 [bytesCk 32 (List.replicate 32 0)]), .res (lb p48 24 [bytesCk 32 (x52.set x51.toNat (u8of (IntKind.wrap .u8 (shr .u32 (r47.1.getD (IntKind.wrap .i64 (x51.tdiv 4)).toNat 0) (IntKind.wrap .u64 (IntKind.wrap .i64 (24 - (IntKind.wrap .i64 (8 * (x51.tmod 4))))))))))])] a w at h
              clear β
              obtain rfl := Option.some.inj hF
              exact ⟨rfl, h.sub [0, 1, 2, 3, 4, 5, 6] (by rfl)⟩
            · replace hF := ff_of hb58 hF
              replace h := h.sub [0, 1, 2, 3, 5, 6, 7] (by rfl)
              change SatL c [.slot 3 (lpVP p1 0), .slot 6 (lpVP p2 0), .slot 10 (lpVP p48 0), .slot 11 (intVP .i64 x51), .res (lb p1 85 [intsCk .u32 8 r47.1]), .res (lb p2 24 [bytesCk 32 (List.replicate 32 0)]), .res (lb p48 24 [bytesCk 32 x52])] a w at h
              refine wp_exit ?_
              obtain rfl := Option.some.inj hF
              exact ⟨exit_ne _, rfl, h.sub [1, 2, 5, 6] (by rfl)⟩
          · clear hl62
            intro e a w hq
            cases cr61 with
            | ret r63 =>
              obtain ⟨rfl, hq⟩ := hq
              obtain rfl := Option.some.inj hF
              exact ⟨.inl rfl, hq⟩
            | next s64 =>
              obtain ⟨y65, y66⟩ := s64
              obtain ⟨rfl, h⟩ := hq
              change SatL c [.slot 6 (lpVP p2 0), .slot 10 (lpVP p48 0), .res (lb p2 24 [bytesCk 32 (List.replicate 32 0)]), .res (lb p48 24 [bytesCk 32 y66])] a w at h
              refine inBlock_at ?_
              show Code.wp Tryd.prog _ _ a w
              refine wp_seq ?_
              refine region_do (n := 65) [.slot 64 100000 100000 (fun _ _ => (aggVP [bytesCk 32 y66])),
      .res 100000 100000 (fun _ _ => (lb p2 24 [bytesCk 32 y66]))] [0, 1] [⟨[1, 3], [], [4], [], some 64⟩, ⟨[0, 4], [2], [5], [0], none⟩] [0, 5] mixed hn hG h (by kernel_rfl) ?_ ?_
              · exact ⟨⟨rfl, fun β => (GOk.plain (op_load_lb [] [bytesCk 32 y66] [] 1 Tryd.isAgg24 Tryd.sizeOf24 (opt 0 rfl) rfl rfl rfl) rfl)⟩, ⟨rfl, fun β => (GOk.plain (op_store_lb [] [bytesCk 32 (List.replicate 32 0)] [] [bytesCk 32 y66] Tryd.sizeOf24 (opt 0 rfl) (opt 1 rfl) (cells_agg _) rfl rfl rfl) rfl)⟩, trivial⟩
              clear h
              intro β a w h
              change SatL c [.slot 6 (lpVP p2 0), .res (lb p2 24 [bytesCk 32 y66])] a w at h
              clear β
              show Code.wp Tryd.prog _ _ a w
              refine wp_ret ?_
              obtain rfl := Option.some.inj hF
              exact ⟨.inl rfl, ret1 h Tryd.results60 (r_cell 0 1 rfl rfl Tryd.isAgg24 Tryd.sizeOf24 rfl) [] [] rfl rfl rfl⟩

def ref01_Sum (a_0 : List UInt8) : Option (List UInt8) := ((ref01_First).bind fun r2 => ((ref01_After r2 a_0).bind fun r3 => ((ref01_End r3.1 r3.2 (IntKind.wrap .u64 (a_0.length : Int))).bind fun r5 => some r5)))
theorem ref01_Sum_ok {a_0 : List UInt8} {r : (List UInt8)} (hF : ref01_Sum a_0 = some r) : CallOk Tryd.prog KG 44 [(strVP a_0)] [] (fun _ => []) (aggVP [bytesCk 32 r]) := by
  refine CallOk.intro 18 Tryd.func44 rfl Tryd.ntmps44 (Nat.le_of_ble_eq_true rfl) ?_
  intro c a w hG hn h
  unfold ref01_Sum at hF
  change SatL c [.slot 0 (strVP a_0)] a w at h
  refine wp_seq ?_
  refine region_do (n := 18) [.slot 2 0 100000 (fun v1_ _ => (lpVP v1_ 0)),
      .res 0 100000 (fun v1_ _ => (lb (v1_) 24 [bytesCk 32 (List.replicate 32 0)]))] [0, 0] [⟨[], [], [1, 2], [], some 2⟩] [0, 1, 2] mixed hn hG h (by kernel_rfl) ?_ ?_
  · exact ⟨⟨rfl, fun β => (GOk.plain (op_alloc Tryd.zeroValue24 z24) rfl)⟩, trivial⟩
  clear h
  intro β a w h
  change SatL c [.slot 0 (strVP a_0), .slot 2 (lpVP (β 0) 0), .res (lb (β 0) 24 [bytesCk 32 (List.replicate 32 0)])] a w at h
  generalize β 0 = p1 at h
  clear β
  show Code.wp Tryd.prog _ _ a w
  refine wp_seq ?_
  obtain ⟨r2, hr2, hF⟩ := bind_some hF
  obtain ⟨r3, hr3, hF⟩ := bind_some hF
  refine region_do (n := 18) [.slot 6 100000 100000 (fun _ _ => (aggVP [intsCk .u32 8 r2])),
      .slot 7 100000 100000 (fun _ _ => (strVP a_0)),
      .slot 8 100000 100000 (fun _ _ => (slVP bC a_0)),
      .slot 9 100000 100000 (fun _ _ => (tupVP [(aggVP [intsCk .u32 8 r3.1]), (slVP bC r3.2)])),
      .slot 5 100000 100000 (fun _ _ => (tupVP [(aggVP [intsCk .u32 8 r3.1]), (slVP bC r3.2)])),
      .slot 10 100000 100000 (fun _ _ => (aggVP [intsCk .u32 8 r3.1])),
      .slot 11 100000 100000 (fun _ _ => (slVP bC r3.2)),
      .slot 3 7 100000 (fun v1_ _ => (lpVP v1_ 0)),
      .res 7 100000 (fun v1_ _ => (lb (v1_) 85 [intsCk .u32 8 (List.replicate 8 0)])),
      .res 7 100000 (fun v1_ _ => (lb (v1_) 85 [intsCk .u32 8 r3.1])),
      .slot 4 100000 100000 (fun _ _ => (slVP bC r3.2))] [0, 1, 2, 3, 4, 5, 6, 7, 7, 8, 9] [⟨[], [], [3], [], some 6⟩, ⟨[0], [], [4], [0], some 7⟩, ⟨[4], [], [5], [0, 1], some 8⟩, ⟨[3, 5], [], [6], [0, 1, 2], some 9⟩, ⟨[6], [], [7], [0, 1, 2, 3], some 5⟩, ⟨[7], [], [8], [0, 1, 2, 3, 4], some 10⟩, ⟨[7], [], [9], [0, 1, 2, 3, 4, 5], some 11⟩, ⟨[], [], [10, 11], [0, 1, 2, 3, 4, 5, 6], some 3⟩, ⟨[10, 8], [11], [12], [0, 1, 2, 3, 4, 5, 6, 7], none⟩, ⟨[9], [], [13], [0, 1, 2, 3, 4, 5, 6, 7, 8], some 4⟩] [0, 1, 10, 13, 2, 12] mixed hn hG h (by kernel_rfl) ?_ ?_
  · exact ⟨⟨rfl, fun β => (GOk.plain (op_call Tryd.call59 (ref01_First_ok hr2) trivial) rfl)⟩, ⟨rfl, fun β => (GOk.plain (op_move (opt 0 rfl)) rfl)⟩, ⟨rfl, fun β => (GOk.plain (op_conv_str_sl Tryd.underlying9 Tryd.underlying79 Tryd.underlying5 (opt 0 rfl)) rfl)⟩, ⟨rfl, fun β => (GOk.plain (op_call Tryd.call58 (ref01_After_ok hr3) ⟨(opt 0 rfl), (opt 1 rfl), trivial⟩) rfl)⟩, ⟨rfl, fun β => (GOk.plain (op_move (opt 0 rfl)) rfl)⟩, ⟨rfl, fun β => (GOk.plain (op_extract (opt 0 rfl) rfl) rfl)⟩, ⟨rfl, fun β => (GOk.plain (op_extract (opt 0 rfl) rfl) rfl)⟩, ⟨rfl, fun β => (GOk.plain (op_alloc Tryd.zeroValue85 z85) rfl)⟩, ⟨rfl, fun β => (GOk.plain (op_store_lb [] [intsCk .u32 8 (List.replicate 8 0)] [] [intsCk .u32 8 r3.1] Tryd.sizeOf85 (opt 0 rfl) (opt 1 rfl) (cells_agg _) rfl rfl rfl) rfl)⟩, ⟨rfl, fun β => (GOk.plain (op_assign (opt 0 rfl)) rfl)⟩, trivial⟩
  clear h
  intro β a w h
  change SatL c [.slot 0 (strVP a_0), .slot 2 (lpVP p1 0), .slot 3 (lpVP (β 7) 0), .slot 4 (slVP bC r3.2), .res (lb p1 24 [bytesCk 32 (List.replicate 32 0)]), .res (lb (β 7) 85 [intsCk .u32 8 r3.1])] a w at h
  generalize β 7 = p4 at h
  clear β
  show Code.wp Tryd.prog _ _ a w
  refine wp_seq ?_
  obtain ⟨r5, hr5, hF⟩ := bind_some hF
  refine region_do (n := 18) [.slot 12 100000 100000 (fun _ _ => (aggVP [intsCk .u32 8 r3.1])),
      .slot 13 100000 100000 (fun _ _ => (slVP bC r3.2)),
      .slot 14 100000 100000 (fun _ _ => (strVP a_0)),
      .slot 15 100000 100000 (fun _ _ => (intVP .i64 (a_0.length : Int))),
      .slot 16 100000 100000 (fun _ _ => (intVP .u64 (IntKind.wrap .u64 (a_0.length : Int)))),
      .slot 17 100000 100000 (fun _ _ => (aggVP [bytesCk 32 r5])),
      .res 100000 100000 (fun _ _ => (lb p1 24 [bytesCk 32 r5]))] [0, 1, 2, 3, 4, 5, 6] [⟨[2, 5], [], [6], [], some 12⟩, ⟨[3], [], [7], [0], some 13⟩, ⟨[0], [], [8], [0, 1], some 14⟩, ⟨[8], [], [9], [0, 1, 2], some 15⟩, ⟨[9], [], [10], [0, 1, 2, 3], some 16⟩, ⟨[6, 7, 10], [], [11], [0, 1, 2, 3, 4], some 17⟩, ⟨[1, 11], [4], [12], [0, 1, 2, 3, 4, 5], none⟩] [1, 12] mixed hn hG h (by kernel_rfl) ?_ ?_
  · exact ⟨⟨rfl, fun β => (GOk.plain (op_load_lb [] [intsCk .u32 8 r3.1] [] 1 Tryd.isAgg85 Tryd.sizeOf85 (opt 0 rfl) rfl rfl rfl) rfl)⟩, ⟨rfl, fun β => (GOk.plain (op_move (opt 0 rfl)) rfl)⟩, ⟨rfl, fun β => (GOk.plain (op_move (opt 0 rfl)) rfl)⟩, ⟨rfl, fun β => (GOk.plain (op_len_str Tryd.underlying9 (opt 0 rfl)) rfl)⟩, ⟨rfl, fun β => (GOk.plain (op_convert_int Tryd.underlying3 Tryd.underlying84 (opt 0 rfl)) rfl)⟩, ⟨rfl, fun β => (GOk.plain (op_call Tryd.call60 (ref01_End_ok hr5) ⟨(opt 0 rfl), (opt 1 rfl), (opt 2 rfl), trivial⟩) rfl)⟩, ⟨rfl, fun β => (GOk.plain (op_store_lb [] [bytesCk 32 (List.replicate 32 0)] [] [bytesCk 32 r5] Tryd.sizeOf24 (opt 0 rfl) (opt 1 rfl) (cells_agg _) rfl rfl rfl) rfl)⟩, trivial⟩
  clear h
  intro β a w h
  change SatL c [.slot 2 (lpVP p1 0), .res (lb p1 24 [bytesCk 32 r5])] a w at h
  clear β
  show Code.wp Tryd.prog _ _ a w
  refine wp_ret ?_
  obtain rfl := Option.some.inj hF
  exact ⟨.inl rfl, ret1 h Tryd.results44 (r_cell 0 1 rfl rfl Tryd.isAgg24 Tryd.sizeOf24 rfl) [] [] rfl rfl rfl⟩

def ref04_Input.b1 (a_1 : List (List UInt8)) (x5 : List UInt8) (x6 : Int) : Option (Flow (List UInt8) ((List UInt8) × Int)) := (if (decide (x6 < (a_1.length : Int))) = true then (if (0 : Int) ≤ x6 ∧ x6 < a_1.length then ((ref03_Text (a_1.getD x6.toNat default)).bind fun r15 => (if x5.length + r15.length ≤ mxl then some (.cont (x5 ++ r15, IntKind.wrap .i64 (x6 + 1))) else none)) else none) else some (.brk (x5, x6)))
def ref04_Input (a_0 : Int) (a_1 : List (List UInt8)) : Option (List UInt8) := ((loopN (fun s : (List UInt8) × Int => ref04_Input.b1 a_1 s.1 s.2) (((a_1.length : Int) - 0 : Int).toNat + 2) ([u8of a_0], 0)).bind fun cr => match cr with | .ret r => some r | .next (y21, y22) => some y21)
theorem ref04_Input_ok {a_0 : Int} {a_1 : List (List UInt8)} {r : (List UInt8)} (hF : ref04_Input a_0 a_1 = some r) : CallOk Tryd.prog KG 43 [(intVP .u8 a_0), (slVP strC a_1)] [] (fun _ => []) (strVP r) := by
  refine CallOk.intro 23 Tryd.func43 rfl Tryd.ntmps43 (Nat.le_of_ble_eq_true rfl) ?_
  intro c a w hG hn h
  unfold ref04_Input at hF
  change SatL c [.slot 0 (intVP .u8 a_0), .slot 1 (slVP strC a_1)] a w at h
  refine wp_seq ?_
  refine region_do (n := 23) [.slot 4 100000 100000 (fun _ _ => (strVP []))] [0] [⟨[], [], [2], [], some 4⟩] [0, 1] mixed hn hG h (by kernel_rfl) ?_ ?_
  · exact ⟨⟨rfl, fun β => (GOk.plain (op_assign (opc (sc _ (by decide)))) rfl)⟩, trivial⟩
  clear h
  intro β a w h
  change SatL c [.slot 0 (intVP .u8 a_0), .slot 1 (slVP strC a_1)] a w at h
  clear β
  show Code.wp Tryd.prog _ _ a w
  refine wp_seq ?_
  refine region_do (n := 23) [.slot 8 100000 100000 (fun _ _ => (intVP .u8 a_0)),
      .slot 9 100000 100000 (fun _ _ => (slVP bC [u8of a_0])),
      .slot 10 100000 100000 (fun _ _ => (strVP [u8of a_0])),
      .slot 5 100000 100000 (fun _ _ => (strVP [u8of a_0]))] [0, 1, 2, 3] [⟨[0], [], [2], [], some 8⟩, ⟨[2], [], [3], [0], some 9⟩, ⟨[3], [], [4], [0, 1], some 10⟩, ⟨[4], [], [5], [0, 1, 2], some 5⟩] [1, 5] mixed hn hG h (by kernel_rfl) ?_ ?_
  · exact ⟨⟨rfl, fun β => (GOk.plain (op_move (opt 0 rfl)) rfl)⟩, ⟨rfl, fun β => (GOk.plain (op_lit (xs := [.tmp 8]) (ys := [u8of a_0]) _ rfl Tryd.underlying79 Tryd.sizeOf5 Tryd.zeroValue5 rfl rfl (by decide) (by decide) ⟨⟨_, (opt 0 rfl), (cells_u8 _)⟩, trivial⟩ lens_bC) rfl)⟩, ⟨rfl, fun β => (GOk.plain (op_conv_sl_str Tryd.underlying79 Tryd.underlying5 Tryd.underlying9 (opt 0 rfl)) rfl)⟩, ⟨rfl, fun β => (GOk.plain (op_assign (opt 0 rfl)) rfl)⟩, trivial⟩
  clear h
  intro β a w h
  change SatL c [.slot 1 (slVP strC a_1), .slot 5 (strVP [u8of a_0])] a w at h
  clear β
  show Code.wp Tryd.prog _ _ a w
  refine wp_seq ?_
  refine wp_seq ?_
  refine region_do (n := 23) [.slot 11 100000 100000 (fun _ _ => (slVP strC a_1)),
      .slot 12 100000 100000 (fun _ _ => (intVP .i64 (a_1.length : Int))),
      .slot 13 100000 100000 (fun _ _ => (intVP .i64 0))] [0, 1, 2] [⟨[0], [], [2], [], some 11⟩, ⟨[2], [], [3], [0], some 12⟩, ⟨[], [], [4], [0, 1], some 13⟩] [1, 2, 3, 4] mixed hn hG h (by kernel_rfl) ?_ ?_
  · exact ⟨⟨rfl, fun β => (GOk.plain (op_move (opt 0 rfl)) rfl)⟩, ⟨rfl, fun β => (GOk.plain (op_len_sl Tryd.underlying22 (opt 0 rfl)) rfl)⟩, ⟨rfl, fun β => (GOk.plain (op_move (opc (ic (by decide)))) rfl)⟩, trivial⟩
  clear h
  intro β a w h
  change SatL c [.slot 5 (strVP [u8of a_0]), .slot 11 (slVP strC a_1), .slot 12 (intVP .i64 (a_1.length : Int)), .slot 13 (intVP .i64 0)] a w at h
  clear β
  show Code.wp Tryd.prog _ _ a w
  refine wp_block ?_
  obtain ⟨cr17, hl18, hF⟩ := bind_some hF
  refine wp_mono (wp_loopN (R := (List UInt8)) (S := (List UInt8) × Int) (fun s a w => SatL c [.slot 5 (strVP s.1), .slot 11 (slVP strC a_1), .slot 12 (intVP .i64 (a_1.length : Int)), .slot 13 (intVP .i64 s.2)] a w) (fun res e a w => match res with | .next s => e = .exit 0 ∧ SatL c [.slot 5 (strVP s.1)] a w | .ret r => e = .ret ∧ RetOk Tryd.prog Tryd.f43 c (strVP r) (fun _ => []) a w) ?_ _ ([u8of a_0], 0) _ _ _ (h.sub [0, 1, 2, 3] (by rfl)) hl18) ?_
  · clear hl18 hF h
    intro s a w o h hF
    obtain ⟨x5, x6⟩ := s
    change ref04_Input.b1 a_1 x5 x6 = some o at hF
    unfold ref04_Input.b1 at hF
    change SatL c [.slot 5 (strVP x5), .slot 11 (slVP strC a_1), .slot 12 (intVP .i64 (a_1.length : Int)), .slot 13 (intVP .i64 x6)] a w at h
    refine wp_seq ?_
    refine region_do (n := 23) [.slot 14 100000 100000 (fun _ _ => (boolVP (decide (x6 < (a_1.length : Int)))))] [0] [⟨[3, 2], [], [4], [], some 14⟩] [0, 1, 2, 3, 4] mixed hn hG h (by kernel_rfl) ?_ ?_
    · exact ⟨⟨rfl, fun β => (GOk.plain (op_bin bin_lss (opt 0 rfl) (opt 1 rfl)) rfl)⟩, trivial⟩
    clear h
    intro β a w h
    change SatL c [.slot 5 (strVP x5), .slot 11 (slVP strC a_1), .slot 12 (intVP .i64 (a_1.length : Int)), .slot 13 (intVP .i64 x6), .slot 14 (boolVP (decide (x6 < (a_1.length : Int))))] a w at h
    clear β
    show Code.wp Tryd.prog _ _ a w
    refine wp_seq ?_
    refine cond_L h 4 rfl (fun hb13 => ?_) (fun hb13 => ?_)
    · replace hF := tt_of hb13 hF
      replace h := h.sub [0, 1, 2, 3] (by rfl)
      change SatL c [.slot 5 (strVP x5), .slot 11 (slVP strC a_1), .slot 12 (intVP .i64 (a_1.length : Int)), .slot 13 (intVP .i64 x6)] a w at h
      refine wp_skip ?_
      show Code.wp Tryd.prog _ _ a w
      refine wp_seq ?_
      refine wp_block ?_
      refine wp_seq ?_
      obtain ⟨hv14, hF⟩ := ite_some hF
      refine region_do (n := 23) [.slot 15 100000 100000 (fun _ _ => (ppVP [one (strVP (a_1.getD x6.toNat default))])),
      .slot 16 100000 100000 (fun _ _ => (strVP (a_1.getD x6.toNat default))),
      .slot 7 100000 100000 (fun _ _ => (strVP (a_1.getD x6.toNat default)))] [0, 1, 2] [⟨[1, 3], [], [4], [], some 15⟩, ⟨[4], [], [5], [0], some 16⟩, ⟨[5], [], [6], [0, 1], some 7⟩] [0, 6, 1, 2, 3] mixed hn hG h (by kernel_rfl) ?_ ?_
      · exact ⟨⟨rfl, fun β => (GOk.plain (op_indexAddr_sl Tryd.underlying22 Tryd.sizeOf9 lens_strC (opt 0 rfl) (opt 1 rfl) hv14) rfl)⟩, ⟨rfl, fun β => (GOk.plain (op_load_pp1 [] Tryd.isAgg9 (opt 0 rfl)) rfl)⟩, ⟨rfl, fun β => (GOk.plain (op_assign (opt 0 rfl)) rfl)⟩, trivial⟩
      clear h
      intro β a w h
      change SatL c [.slot 5 (strVP x5), .slot 7 (strVP (a_1.getD x6.toNat default)), .slot 11 (slVP strC a_1), .slot 12 (intVP .i64 (a_1.length : Int)), .slot 13 (intVP .i64 x6)] a w at h
      clear β
      show Code.wp Tryd.prog _ _ a w
      obtain ⟨r15, hr15, hF⟩ := bind_some hF
      obtain ⟨hv16, hF⟩ := ite_some hF
      refine region_do (n := 23) [.slot 17 100000 100000 (fun _ _ => (strVP x5)),
      .slot 18 100000 100000 (fun _ _ => (strVP (a_1.getD x6.toNat default))),
      .slot 19 100000 100000 (fun _ _ => (strVP r15)),
      .slot 20 100000 100000 (fun _ _ => (strVP (x5 ++ r15))),
      .slot 5 100000 100000 (fun _ _ => (strVP (x5 ++ r15)))] [0, 1, 2, 3, 4] [⟨[0], [], [5], [], some 17⟩, ⟨[1], [], [6], [0], some 18⟩, ⟨[6], [], [7], [0, 1], some 19⟩, ⟨[5, 7], [], [8], [0, 1, 2], some 20⟩, ⟨[8], [0], [9], [0, 1, 2, 3], some 5⟩] [9, 2, 3, 4] mixed hn hG h (by kernel_rfl) ?_ ?_
      · exact ⟨⟨rfl, fun β => (GOk.plain (op_move (opt 0 rfl)) rfl)⟩, ⟨rfl, fun β => (GOk.plain (op_move (opt 0 rfl)) rfl)⟩, ⟨rfl, fun β => (GOk.plain (op_call Tryd.call57 (ref03_Text_ok hr15) ⟨(opt 0 rfl), trivial⟩) rfl)⟩, ⟨rfl, fun β => (GOk.plain (op_bin (bin_sadd hv16) (opt 0 rfl) (opt 1 rfl)) rfl)⟩, ⟨rfl, fun β => (GOk.drop _ (GOk.plain (op_assign (opt 0 rfl)) rfl))⟩, trivial⟩
      clear h
      intro β a w h
      change SatL c [.slot 5 (strVP (x5 ++ r15)), .slot 11 (slVP strC a_1), .slot 12 (intVP .i64 (a_1.length : Int)), .slot 13 (intVP .i64 x6)] a w at h
      clear β
      show Code.wp Tryd.prog _ _ a w
      refine region_do (n := 23) [.slot 21 100000 100000 (fun _ _ => (intVP .i64 (IntKind.wrap .i64 (x6 + 1)))),
      .slot 13 100000 100000 (fun _ _ => (intVP .i64 (IntKind.wrap .i64 (x6 + 1))))] [0, 1] [⟨[3], [], [4], [], some 21⟩, ⟨[4], [3], [5], [0], some 13⟩] [0, 1, 2, 5] mixed hn hG h (by kernel_rfl) ?_ ?_
      · exact ⟨⟨rfl, fun β => (GOk.plain (op_bin bin_add (opt 0 rfl) (opc (ic (by decide)))) rfl)⟩, ⟨rfl, fun β => (GOk.drop _ (GOk.plain (op_move (opt 0 rfl)) rfl))⟩, trivial⟩
      clear h
      intro β a w h
      change SatL c [.slot 5 (strVP (x5 ++ r15)), .slot 11 (slVP strC a_1), .slot 12 (intVP .i64 (a_1.length : Int)), .slot 13 (intVP .i64 (IntKind.wrap .i64 (x6 + 1)))] a w at h
      clear β
      obtain rfl := Option.some.inj hF
      exact ⟨rfl, h.sub [0, 1, 2, 3] (by rfl)⟩
    · replace hF := ff_of hb13 hF
      replace h := h.sub [0, 1, 2, 3] (by rfl)
      change SatL c [.slot 5 (strVP x5), .slot 11 (slVP strC a_1), .slot 12 (intVP .i64 (a_1.length : Int)), .slot 13 (intVP .i64 x6)] a w at h
      refine wp_exit ?_
      obtain rfl := Option.some.inj hF
      exact ⟨exit_ne _, rfl, h.sub [0] (by rfl)⟩
  · clear hl18
    intro e a w hq
    cases cr17 with
    | ret r19 =>
      obtain ⟨rfl, hq⟩ := hq
      obtain rfl := Option.some.inj hF
      exact ⟨.inl rfl, hq⟩
    | next s20 =>
      obtain ⟨y21, y22⟩ := s20
      obtain ⟨rfl, h⟩ := hq
      change SatL c [.slot 5 (strVP y21)] a w at h
      refine inBlock_at ?_
      show Code.wp Tryd.prog _ _ a w
      refine wp_seq ?_
      refine region_do (n := 23) [.slot 22 100000 100000 (fun _ _ => (strVP y21)),
      .slot 4 100000 100000 (fun _ _ => (strVP y21))] [0, 1] [⟨[0], [], [1], [], some 22⟩, ⟨[1], [], [2], [0], some 4⟩] [2] mixed hn hG h (by kernel_rfl) ?_ ?_
      · exact ⟨⟨rfl, fun β => (GOk.plain (op_move (opt 0 rfl)) rfl)⟩, ⟨rfl, fun β => (GOk.plain (op_assign (opt 0 rfl)) rfl)⟩, trivial⟩
      clear h
      intro β a w h
      change SatL c [.slot 4 (strVP y21)] a w at h
      clear β
      show Code.wp Tryd.prog _ _ a w
      refine wp_ret ?_
      obtain rfl := Option.some.inj hF
      exact ⟨.inl rfl, ret1 h Tryd.results43 (r_tmp 0 rfl) [] [] rfl rfl rfl⟩

def ref04_New : Option O_RLog := some ⟨[], []⟩
theorem ref04_New_ok {r : O_RLog} (hF : ref04_New = some r) : CallOk Tryd.prog KG 17 [] [] (fun v => [RLog_e v (some r)]) anyVP := by
  refine CallOk.intro 4 Tryd.func17 rfl Tryd.ntmps17 (Nat.le_of_ble_eq_true rfl) ?_
  intro c a w hG hn h
  unfold ref04_New at hF
  change SatL c [] a w at h
  refine wp_seq ?_
  refine region_do (n := 4) [.slot 0 100000 100000 (fun _ _ => (eqVP (.pointer none)))] [0] [⟨[], [], [0], [], some 0⟩] [] mixed hn hG h (by kernel_rfl) ?_ ?_
  · exact ⟨⟨rfl, fun β => (GOk.plain (op_assign (opc (ec _))) rfl)⟩, trivial⟩
  clear h
  intro β a w h
  change SatL c [] a w at h
  clear β
  show Code.wp Tryd.prog _ _ a w
  refine wp_seq ?_
  refine region_do (n := 4) [.slot 1 0 100000 (fun v1_ _ => (eqVP (v1_))),
      .res 0 100000 (fun v1_ _ => (mapR (v1_) arrK (fun l => l.length = 32) (fun u y => acc u 9 1 strC y) [])),
      .slot 2 0 100000 (fun v1_ _ => (aggVP [one (eqVP (.slice none 0 0)), one (eqVP (v1_))])),
      .slot 3 2 100000 (fun v1_ _ => (lpVP v1_ 0)),
      .res 0 2 (fun v1_ v2_ => (lb (v2_) 41 [one (eqVP (.slice none 0 0)), one (eqVP (v1_))])),
      .slot 0 2 100000 (fun v1_ _ => (lpVP v1_ 0))] [0, 0, 1, 2, 2, 3] [⟨[], [], [0, 1], [], some 1⟩, ⟨[0, 1], [], [2], [0], some 2⟩, ⟨[2], [], [3, 4], [0, 1], some 3⟩, ⟨[3], [], [5], [0, 1, 2], some 0⟩] [5, 1, 4] mixed hn hG h (by kernel_rfl) ?_ ?_
  · exact ⟨⟨rfl, fun β => (GOk.plain op_makeMap rfl)⟩, ⟨rfl, fun β => (GOk.plain (op_build [(1, .tmp 1)] rfl bu41 zo41 ⟨[one (eqVP (.slice none 0 0))], [one (eqVP (.map none))], [], [one (eqVP ((β 0)))], _, rfl, rfl, rfl, (opone 0 1 rfl rfl map_one), (cells_h _), rfl⟩) rfl)⟩, ⟨rfl, fun β => (GOk.plain (op_box (L := [one (eqVP (.slice none 0 0)), one (eqVP ((β 0)))]) (opt 0 rfl) (cells_agg _)) rfl)⟩, ⟨rfl, fun β => (GOk.plain (op_assign (V := (lpVP (β 2) 0)) (opt 0 rfl)) rfl)⟩, trivial⟩
  clear h
  intro β a w h
  change SatL c [.slot 0 (lpVP (β 2) 0), .res (mapR (β 0) arrK (fun l => l.length = 32) (fun u y => acc u 9 1 strC y) []), .res (lb (β 2) 41 [one (eqVP (.slice none 0 0)), one (eqVP (β 0))])] a w at h
  generalize β 2 = p1 at h
  generalize β 0 = p2 at h
  clear β
  show Code.wp Tryd.prog _ _ a w
  refine wp_ret ?_
  replace h := h.nilacc 9 1 strC
  replace h := h.unsep 3 1 rfl rfl (by decide)
  replace h := h.unsep 2 3 rfl rfl (by decide)
  replace h := h.conv 2 rfl (R' := RLog_e p1 (some ⟨[], []⟩)) (RLog_packo (v0 := (.slice none 0 0)) (v1 := p2) (o := (some ⟨[], []⟩)))
  replace h := h.slotc 0 rfl (fun _ _ h => lp_eqv h)
  replace h := h.sub [0, 2] (by rfl)
  change SatL c [.slot 0 (eqVP p1), .res (RLog_e p1 (some ⟨[], []⟩))] a w at h
  obtain rfl := Option.some.inj hF
  exact ⟨.inl rfl, ret1v (p := p1) h Tryd.results17 (r_tmp 0 rfl) [1] _ rfl rfl rfl⟩

def ref04_Log_Clash.n : Option Bool := some false
def ref04_Log_Clash.s (s_0 : O_RLog) : Option Bool := (if s_0.f_Digests.length ≤ mxl then some (decide ((s_0.f_Digests.length : Int) < (s_0.f_Inputs.length : Int))) else none)
def ref04_Log_Clash (L_0 : Option O_RLog) : Option Bool := match L_0 with | none => ref04_Log_Clash.n | some s_0 => ref04_Log_Clash.s s_0
theorem ref04_Log_Clash_ok {p_0 : Value} {h_0_0 : Value} {h_0_1 : Value} {L_0 : Option O_RLog} {r : Bool} (hF : ref04_Log_Clash L_0 = some r) : CallOk Tryd.prog KG 21 [(eqVP p_0)] [(RLog_o p_0 h_0_0 h_0_1 L_0)] (fun _ => [(RLog_o p_0 h_0_0 h_0_1 L_0)]) (boolVP r) := by
  refine CallOk.intro 18 Tryd.func21 rfl Tryd.ntmps21 (Nat.le_of_ble_eq_true rfl) ?_
  intro c a w hG hn h
  unfold ref04_Log_Clash at hF
  change SatL c [.slot 0 (eqVP p_0), .res (RLog_o p_0 h_0_0 h_0_1 L_0)] a w at h
  cases L_0 with
  | none =>
    change ref04_Log_Clash.n = some r at hF
    unfold ref04_Log_Clash.n at hF
    obtain rfl := h.isp 1 rfl (fun _ _ _ q => q.2)
    replace h := h.slotc 0 rfl (V' := ptrVP (.pointer none) false) (fun _ _ h => ⟨h, rfl⟩)
    change SatL c [.slot 0 (ptrVP (.pointer none) false), .res (RLog_o (.pointer none) h_0_0 h_0_1 none)] a w at h
    refine wp_seq ?_
    refine region_do (n := 18) [.slot 2 100000 100000 (fun _ _ => (boolVP false))] [0] [⟨[], [], [2], [], some 2⟩] [0, 1] mixed hn hG h (by kernel_rfl) ?_ ?_
    · exact ⟨⟨rfl, fun β => (GOk.plain (op_assign (opc (bc _))) rfl)⟩, trivial⟩
    clear h
    intro β a w h
    change SatL c [.slot 0 (ptrVP (.pointer none) false), .res (RLog_o (.pointer none) h_0_0 h_0_1 none)] a w at h
    clear β
    show Code.wp Tryd.prog _ _ a w
    refine wp_seq ?_
    refine region_do (n := 18) [.slot 3 100000 100000 (fun _ _ => (ptrVP (.pointer none) false)),
      .slot 4 100000 100000 (fun _ _ => (boolVP false)),
      .slot 5 100000 100000 (fun _ _ => (boolVP false)),
      .slot 6 100000 100000 (fun _ _ => (eqVP undef)),
      .slot 7 100000 100000 (fun _ _ => (eqVP undef)),
      .slot 8 100000 100000 (fun _ _ => (eqVP undef)),
      .slot 9 100000 100000 (fun _ _ => (eqVP undef)),
      .slot 10 100000 100000 (fun _ _ => (eqVP undef)),
      .slot 11 100000 100000 (fun _ _ => (eqVP undef)),
      .slot 12 100000 100000 (fun _ _ => (eqVP undef)),
      .slot 13 100000 100000 (fun _ _ => (eqVP undef)),
      .slot 14 100000 100000 (fun _ _ => (eqVP undef)),
      .slot 15 100000 100000 (fun _ _ => (eqVP undef)),
      .slot 16 100000 100000 (fun _ _ => (eqVP undef)),
      .slot 17 100000 100000 (fun _ _ => (boolVP false)),
      .slot 2 100000 100000 (fun _ _ => (boolVP false))] [0, 1, 2, 3, 4, 5, 6, 7, 8, 9, 10, 11, 12, 13, 14, 15] [⟨[0], [], [2], [], some 3⟩, ⟨[2], [], [3], [0], some 4⟩, ⟨[3], [], [4], [0, 1], some 5⟩, ⟨[4], [], [5], [0, 1, 2], some 6⟩, ⟨[4], [], [6], [0, 1, 2, 3], some 7⟩, ⟨[4], [], [7], [0, 1, 2, 3, 4], some 8⟩, ⟨[4], [], [8], [0, 1, 2, 3, 4, 5], some 9⟩, ⟨[4], [], [9], [0, 1, 2, 3, 4, 5, 6], some 10⟩, ⟨[4], [], [10], [0, 1, 2], some 11⟩, ⟨[4], [], [11], [0, 1, 2, 8], some 12⟩, ⟨[4], [], [12], [0, 1, 2, 8, 9], some 13⟩, ⟨[4], [], [13], [0, 1, 2, 8, 9, 10], some 14⟩, ⟨[4], [], [14], [0, 1, 2, 8, 9, 10, 11], some 15⟩, ⟨[4], [], [15], [0, 1, 2, 3, 4, 5, 6, 7, 8, 9, 10, 11, 12], some 16⟩, ⟨[4], [], [16], [0, 1, 2, 3, 4, 5, 6, 7, 8, 9, 10, 11, 12, 13], some 17⟩, ⟨[16], [], [17], [0, 1, 2, 3, 4, 5, 6, 7, 8, 9, 10, 11, 12, 13, 14], some 2⟩] [17, 1] mixed hn hG h (by kernel_rfl) ?_ ?_
    · exact ⟨⟨rfl, fun β => (GOk.plain (op_move (opt 0 rfl)) rfl)⟩, ⟨rfl, fun β => (GOk.plain (op_bin (bin_pnn Tryd.underlying35) (opt 0 rfl) (opc (ec _))) rfl)⟩, ⟨rfl, fun β => (GOk.plain (op_move (opt 0 rfl)) rfl)⟩, ⟨rfl, fun β => (GOk.off_v (want := true) rfl rfl rfl rfl rfl)⟩, ⟨rfl, fun β => (GOk.off_v (want := true) rfl rfl rfl rfl rfl)⟩, ⟨rfl, fun β => (GOk.off_v (want := true) rfl rfl rfl rfl rfl)⟩, ⟨rfl, fun β => (GOk.off_v (want := true) rfl rfl rfl rfl rfl)⟩, ⟨rfl, fun β => (GOk.off_v (want := true) rfl rfl rfl rfl rfl)⟩, ⟨rfl, fun β => (GOk.off_v (want := true) rfl rfl rfl rfl rfl)⟩, ⟨rfl, fun β => (GOk.off_v (want := true) rfl rfl rfl rfl rfl)⟩, ⟨rfl, fun β => (GOk.off_v (want := true) rfl rfl rfl rfl rfl)⟩, ⟨rfl, fun β => (GOk.off_v (want := true) rfl rfl rfl rfl rfl)⟩, ⟨rfl, fun β => (GOk.off_v (want := true) rfl rfl rfl rfl rfl)⟩, ⟨rfl, fun β => (GOk.off_v (want := true) rfl rfl rfl rfl rfl)⟩, ⟨rfl, fun β => (GOk.plain (op_pick_f rfl (opt 0 rfl) (opc (bc _))) rfl)⟩, ⟨rfl, fun β => (GOk.plain (op_assign (opt 0 rfl)) rfl)⟩, trivial⟩
    clear h
    intro β a w h
    change SatL c [.slot 2 (boolVP false), .res (RLog_o (.pointer none) h_0_0 h_0_1 none)] a w at h
    clear β
    show Code.wp Tryd.prog _ _ a w
    refine wp_ret ?_
    obtain rfl := Option.some.inj hF
    exact ⟨.inl rfl, ret1 h Tryd.results21 (r_tmp 0 rfl) [1] [(RLog_o (.pointer none) h_0_0 h_0_1 none)] rfl rfl rfl⟩
  | some s_0 =>
    change ref04_Log_Clash.s s_0 = some r at hF
    unfold ref04_Log_Clash.s at hF
    have hp := h.isp 1 rfl (fun Φ f w q => RLog_lp Φ f w q)
    replace h := h.slotc 0 rfl (V' := lpVP p_0 0) (fun _ _ h => eq_lp h hp)
    replace h := h.sep (R := lb p_0 41 [one (eqVP h_0_0), one (eqVP h_0_1)]) (S := (RP.sep (acc h_0_0 9 1 strC s_0.f_Inputs) (mapR h_0_1 arrK (fun l => l.length = 32) (fun u y => acc u 9 1 strC y) s_0.f_Digests))) 1 rfl
    replace h := h.sep (R := acc h_0_0 9 1 strC s_0.f_Inputs) (S := (mapR h_0_1 arrK (fun l => l.length = 32) (fun u y => acc u 9 1 strC y) s_0.f_Digests)) 2 rfl
    replace h := h.sub [0, 1, 2, 3] (by rfl)
    change SatL c [.slot 0 (lpVP p_0 0), .res (lb p_0 41 [one (eqVP h_0_0), one (eqVP h_0_1)]), .res (acc h_0_0 9 1 strC s_0.f_Inputs), .res (mapR h_0_1 arrK (fun l => l.length = 32) (fun u y => acc u 9 1 strC y) s_0.f_Digests)] a w at h
    refine wp_seq ?_
    refine region_do (n := 18) [.slot 2 100000 100000 (fun _ _ => (boolVP false))] [0] [⟨[], [], [4], [], some 2⟩] [0, 1, 2, 3] mixed hn hG h (by kernel_rfl) ?_ ?_
    · exact ⟨⟨rfl, fun β => (GOk.plain (op_assign (opc (bc _))) rfl)⟩, trivial⟩
    clear h
    intro β a w h
    change SatL c [.slot 0 (lpVP p_0 0), .res (lb p_0 41 [one (eqVP h_0_0), one (eqVP h_0_1)]), .res (acc h_0_0 9 1 strC s_0.f_Inputs), .res (mapR h_0_1 arrK (fun l => l.length = 32) (fun u y => acc u 9 1 strC y) s_0.f_Digests)] a w at h
    clear β
    show Code.wp Tryd.prog _ _ a w
    refine wp_seq ?_
    obtain ⟨hv1, hF⟩ := ite_some hF
    refine region_do (n := 18) [.slot 3 100000 100000 (fun _ _ => (lpVP p_0 0)),
      .slot 4 100000 100000 (fun _ _ => (boolVP true)),
      .slot 5 100000 100000 (fun _ _ => (boolVP true)),
      .slot 6 100000 100000 (fun _ _ => (lpVP p_0 0)),
      .slot 7 100000 100000 (fun _ _ => (lpVP p_0 0)),
      .slot 8 100000 100000 (fun _ _ => (lpVP p_0 1)),
      .slot 9 100000 100000 (fun _ _ => (eqVP h_0_1)),
      .slot 10 100000 100000 (fun _ _ => (intVP .i64 (s_0.f_Digests.length : Int))),
      .slot 11 100000 100000 (fun _ _ => (lpVP p_0 0)),
      .slot 12 100000 100000 (fun _ _ => (lpVP p_0 0)),
      .slot 13 100000 100000 (fun _ _ => (lpVP p_0 0)),
      .slot 14 100000 100000 (fun _ _ => (eqVP h_0_0)),
      .slot 15 100000 100000 (fun _ _ => (intVP .i64 (s_0.f_Inputs.length : Int))),
      .slot 16 100000 100000 (fun _ _ => (boolVP (decide ((s_0.f_Digests.length : Int) < (s_0.f_Inputs.length : Int))))),
      .slot 17 100000 100000 (fun _ _ => (boolVP (decide ((s_0.f_Digests.length : Int) < (s_0.f_Inputs.length : Int))))),
      .slot 2 100000 100000 (fun _ _ => (boolVP (decide ((s_0.f_Digests.length : Int) < (s_0.f_Inputs.length : Int)))))] [0, 1, 2, 3, 4, 5, 6, 7, 8, 9, 10, 11, 12, 13, 14, 15] [⟨[0], [], [4], [], some 3⟩, ⟨[4], [], [5], [0], some 4⟩, ⟨[5], [], [6], [0, 1], some 5⟩, ⟨[6, 0], [], [7], [0, 1, 2], some 6⟩, ⟨[6, 7], [], [8], [0, 1, 2, 3], some 7⟩, ⟨[6, 8], [], [9], [0, 1, 2, 3, 4], some 8⟩, ⟨[6, 9, 1], [], [10], [0, 1, 2, 3, 4, 5], some 9⟩, ⟨[6, 10, 3], [], [11], [0, 1, 2, 3, 4, 5, 6], some 10⟩, ⟨[6, 0], [], [12], [0, 1, 2], some 11⟩, ⟨[6, 12], [], [13], [0, 1, 2, 8], some 12⟩, ⟨[6, 13], [], [14], [0, 1, 2, 8, 9], some 13⟩, ⟨[6, 14, 1], [], [15], [0, 1, 2, 8, 9, 10], some 14⟩, ⟨[6, 15, 2], [], [16], [0, 1, 2, 8, 9, 10, 11], some 15⟩, ⟨[6, 11, 16], [], [17], [0, 1, 2, 3, 4, 5, 6, 7, 8, 9, 10, 11, 12], some 16⟩, ⟨[6, 17], [], [18], [0, 1, 2, 3, 4, 5, 6, 7, 8, 9, 10, 11, 12, 13], some 17⟩, ⟨[18], [], [19], [0, 1, 2, 3, 4, 5, 6, 7, 8, 9, 10, 11, 12, 13, 14], some 2⟩] [19, 1, 2, 3] mixed hn hG h (by kernel_rfl) ?_ ?_
    · exact ⟨⟨rfl, fun β => (GOk.plain (op_move (opt 0 rfl)) rfl)⟩, ⟨rfl, fun β => (GOk.plain (op_bin (bin_pnn Tryd.underlying35) (lp_ptr (opt 0 rfl)) (opc (ec _))) rfl)⟩, ⟨rfl, fun β => (GOk.plain (op_move (opt 0 rfl)) rfl)⟩, ⟨rfl, fun β => (GOk.on_eq rfl rfl rfl rfl (op_move (opt 0 rfl)))⟩, ⟨rfl, fun β => (GOk.on_eq rfl rfl rfl rfl (op_nilCheck (opt 0 rfl) (ptr_lp _ _)))⟩, ⟨rfl, fun β => (GOk.on_eq rfl rfl rfl rfl (op_fieldAddr_lbm (p := p_0) (n := 1) 0 1 Tryd.underlying41 rfl Tryd.sizeOf39 (by decide) (opt 0 rfl) rfl))⟩, ⟨rfl, fun β => (GOk.on_eq rfl rfl rfl rfl (op_load_lb1 [one (eqVP h_0_0)] [] 1 Tryd.isAgg39 (opt 0 rfl) rfl rfl))⟩, ⟨rfl, fun β => (GOk.on_eq rfl rfl rfl rfl (op_len_map 1 Tryd.underlying39 (opt 0 rfl) rfl res_id hv1))⟩, ⟨rfl, fun β => (GOk.on_eq rfl rfl rfl rfl (op_move (opt 0 rfl)))⟩, ⟨rfl, fun β => (GOk.on_eq rfl rfl rfl rfl (op_nilCheck (opt 0 rfl) (ptr_lp _ _)))⟩, ⟨rfl, fun β => (GOk.on_eq rfl rfl rfl rfl (op_fieldAddr_lbm (p := p_0) (n := 1) 0 0 Tryd.underlying41 rfl Tryd.sizeOf22 (by decide) (opt 0 rfl) rfl))⟩, ⟨rfl, fun β => (GOk.on_eq rfl rfl rfl rfl (op_load_lb1 [] [one (eqVP h_0_1)] 1 Tryd.isAgg22 (opt 0 rfl) rfl rfl))⟩, ⟨rfl, fun β => (GOk.on_eq rfl rfl rfl rfl (op_len_sl Tryd.underlying22 (opacc 0 1 rfl rfl)))⟩, ⟨rfl, fun β => (GOk.on_eq rfl rfl rfl rfl (op_bin bin_lss (opt 0 rfl) (opt 1 rfl)))⟩, ⟨rfl, fun β => (GOk.plain (op_pick_t rfl (opt 0 rfl) (opt 1 rfl)) rfl)⟩, ⟨rfl, fun β => (GOk.plain (op_assign (opt 0 rfl)) rfl)⟩, trivial⟩
    clear h
    intro β a w h
    change SatL c [.slot 2 (boolVP (decide ((s_0.f_Digests.length : Int) < (s_0.f_Inputs.length : Int)))), .res (lb p_0 41 [one (eqVP h_0_0), one (eqVP h_0_1)]), .res (acc h_0_0 9 1 strC s_0.f_Inputs), .res (mapR h_0_1 arrK (fun l => l.length = 32) (fun u y => acc u 9 1 strC y) s_0.f_Digests)] a w at h
    clear β
    show Code.wp Tryd.prog _ _ a w
    refine wp_ret ?_
    replace h := h.unsep 2 3 rfl rfl (by decide)
    replace h := h.unsep 1 2 rfl rfl (by decide)
    replace h := h.sub [0, 1] (by rfl)
    change SatL c [.slot 2 (boolVP (decide ((s_0.f_Digests.length : Int) < (s_0.f_Inputs.length : Int)))), .res (RLog_o p_0 h_0_0 h_0_1 (some s_0))] a w at h
    obtain rfl := Option.some.inj hF
    exact ⟨.inl rfl, ret1 h Tryd.results21 (r_tmp 0 rfl) [1] [(RLog_o p_0 h_0_0 h_0_1 (some s_0))] rfl rfl rfl⟩
theorem ref04_Log_Clash_oke {p_0 : Value} {L_0 : Option O_RLog} {r : Bool} (hF : ref04_Log_Clash L_0 = some r) : CallOk Tryd.prog KG 21 [(eqVP p_0)] [RLog_e p_0 L_0] (fun _ => [RLog_e p_0 L_0]) (boolVP r) := CallOk.ex fun h_0_0 => CallOk.ex fun h_0_1 => ref04_Log_Clash_ok hF
theorem ref04_Log_Clash_oku {p_0 : Value} {h_0_0 : Value} {h_0_1 : Value} {s_0 : O_RLog} {r : Bool} (hF : ref04_Log_Clash (some s_0) = some r) : CallOk Tryd.prog KG 21 [(eqVP p_0)] [lb p_0 41 [one (eqVP h_0_0), one (eqVP h_0_1)], acc h_0_0 9 1 strC s_0.f_Inputs, mapR h_0_1 arrK (fun l => l.length = 32) (fun u y => acc u 9 1 strC y) s_0.f_Digests] (fun _ => [lb p_0 41 [one (eqVP h_0_0), one (eqVP h_0_1)], acc h_0_0 9 1 strC s_0.f_Inputs, mapR h_0_1 arrK (fun l => l.length = 32) (fun u y => acc u 9 1 strC y) s_0.f_Digests]) (boolVP r) := CallOk.split2 (ref04_Log_Clash_ok hF)

def ref04_Log_Note.n (a_1 : List UInt8) (a_2 : List UInt8) : Option (Option O_RLog) := some none
def ref04_Log_Note.b1 (s_0 : O_RLog) (a_1 : List UInt8) (a_2 : List UInt8) (x8 : Int) : Option (Flow (Option O_RLog) Int) := (if (decide (x8 < (((lkp a_1 s_0.f_Digests).getD []).length : Int))) = true then (if (0 : Int) ≤ x8 ∧ x8 < ((lkp a_1 s_0.f_Digests).getD []).length then (if (decide ((((lkp a_1 s_0.f_Digests).getD []).getD x8.toNat default) = a_2)) = true then some (.ret (some s_0)) else some (.cont (IntKind.wrap .i64 (x8 + 1)))) else none) else some (.brk x8))
def ref04_Log_Note.s (s_0 : O_RLog) (a_1 : List UInt8) (a_2 : List UInt8) : Option (Option O_RLog) := ((loopN (fun s : Int => ref04_Log_Note.b1 s_0 a_1 a_2 s) (((((lkp a_1 s_0.f_Digests).getD []).length : Int) - 0 : Int).toNat + 2) 0).bind fun cr => match cr with | .ret r => some r | .next y20 => (if ((lkp a_1 s_0.f_Digests).getD ([] : List (List UInt8))).length + [a_2].length ≤ mxl ∧ (((lkp a_1 s_0.f_Digests).getD ([] : List (List UInt8))).length + [a_2].length) * 16 ≤ 140737488355328 then (if s_0.f_Inputs.length + [a_2].length ≤ mxl ∧ (s_0.f_Inputs.length + [a_2].length) * 16 ≤ 140737488355328 then some (some ⟨s_0.f_Inputs ++ [a_2], upd a_1 (((lkp a_1 s_0.f_Digests).getD ([] : List (List UInt8))) ++ [a_2]) (ens a_1 ([] : List (List UInt8)) s_0.f_Digests)⟩) else none) else none))
def ref04_Log_Note (L_0 : Option O_RLog) (a_1 : List UInt8) (a_2 : List UInt8) : Option (Option O_RLog) := match L_0 with | none => ref04_Log_Note.n a_1 a_2 | some s_0 => ref04_Log_Note.s s_0 a_1 a_2
theorem ref04_Log_Note_ok {p_0 : Value} {L_0 : Option O_RLog} {a_1 : List UInt8} {a_2 : List UInt8} {r : (Option O_RLog)} (hF : ref04_Log_Note L_0 a_1 a_2 = some r) : CallOk Tryd.prog KG 45 [(eqVP p_0), (aggVP [bytesCk 32 a_1]), (strVP a_2)] [(RLog_e p_0 L_0)] (fun _ => [RLog_e p_0 r]) (tupVP []) := by
  refine CallOk.intro 46 Tryd.func45 rfl Tryd.ntmps45 (Nat.le_of_ble_eq_true rfl) ?_
  intro c a w hG hn h
  unfold ref04_Log_Note at hF
  change SatL c [.slot 0 (eqVP p_0), .slot 1 (aggVP [bytesCk 32 a_1]), .slot 2 (strVP a_2), .res (RLog_e p_0 L_0)] a w at h
  obtain ⟨h_0_0, h⟩ := h.ex 3 rfl
  obtain ⟨h_0_1, h⟩ := h.ex 3 rfl
  change SatL c [.slot 0 (eqVP p_0), .slot 1 (aggVP [bytesCk 32 a_1]), .slot 2 (strVP a_2), .res (RLog_o p_0 h_0_0 h_0_1 L_0)] a w at h
  cases L_0 with
  | none =>
    change ref04_Log_Note.n a_1 a_2 = some r at hF
    unfold ref04_Log_Note.n at hF
    obtain rfl := h.isp 3 rfl (fun _ _ _ q => q.2)
    replace h := h.slotc 0 rfl (V' := ptrVP (.pointer none) false) (fun _ _ h => ⟨h, rfl⟩)
    change SatL c [.slot 0 (ptrVP (.pointer none) false), .slot 1 (aggVP [bytesCk 32 a_1]), .slot 2 (strVP a_2), .res (RLog_o (.pointer none) h_0_0 h_0_1 none)] a w at h
    refine wp_seq ?_
    refine region_do (n := 46) [.slot 4 0 100000 (fun v1_ _ => (lpVP v1_ 0)),
      .res 0 100000 (fun v1_ _ => (lb (v1_) 24 [bytesCk 32 a_1]))] [0, 0] [⟨[1], [], [4, 5], [], some 4⟩] [0, 2, 4, 3, 5] mixed hn hG h (by kernel_rfl) ?_ ?_
    · exact ⟨⟨rfl, fun β => (GOk.plain (op_box (opt 0 rfl) (cells_agg _)) rfl)⟩, trivial⟩
    clear h
    intro β a w h
    change SatL c [.slot 0 (ptrVP (.pointer none) false), .slot 2 (strVP a_2), .slot 4 (lpVP (β 0) 0), .res (RLog_o (.pointer none) h_0_0 h_0_1 none), .res (lb (β 0) 24 [bytesCk 32 a_1])] a w at h
    generalize β 0 = p1 at h
    clear β
    show Code.wp Tryd.prog _ _ a w
    refine wp_seq ?_
    refine wp_seq ?_
    refine region_do (n := 46) [.slot 8 100000 100000 (fun _ _ => (ptrVP (.pointer none) false)),
      .slot 9 100000 100000 (fun _ _ => (boolVP true))] [0, 1] [⟨[0], [], [5], [], some 8⟩, ⟨[5], [], [6], [0], some 9⟩] [0, 1, 2, 6, 3, 4] mixed hn hG h (by kernel_rfl) ?_ ?_
    · exact ⟨⟨rfl, fun β => (GOk.plain (op_move (opt 0 rfl)) rfl)⟩, ⟨rfl, fun β => (GOk.plain (op_bin (bin_pnil Tryd.underlying35) (opt 0 rfl) (opc (ec _))) rfl)⟩, trivial⟩
    clear h
    intro β a w h
    change SatL c [.slot 0 (ptrVP (.pointer none) false), .slot 2 (strVP a_2), .slot 4 (lpVP p1 0), .slot 9 (boolVP true), .res (RLog_o (.pointer none) h_0_0 h_0_1 none), .res (lb p1 24 [bytesCk 32 a_1])] a w at h
    clear β
    show Code.wp Tryd.prog _ _ a w
    refine cond_L h 3 rfl (fun hb2 => ?_) (fun hb2 => ?_)
    · skip
      replace h := h.sub [4] (by rfl)
      change SatL c [.res (RLog_o (.pointer none) h_0_0 h_0_1 none)] a w at h
      refine wp_ret ?_
      replace h := h.conv 0 rfl RLog_packo
      change SatL c [.res (RLog_e (.pointer none) none)] a w at h
      obtain rfl := Option.some.inj hF
      exact ⟨.inl rfl, retn h (rs := []) (Vs := []) Tryd.results45 (by decide) trivial [0] [(RLog_e (.pointer none) none)] rfl rfl rfl⟩
    · cases hb2
  | some s_0 =>
    change ref04_Log_Note.s s_0 a_1 a_2 = some r at hF
    unfold ref04_Log_Note.s at hF
    have hp := h.isp 3 rfl (fun Φ f w q => RLog_lp Φ f w q)
    replace h := h.slotc 0 rfl (V' := lpVP p_0 0) (fun _ _ h => eq_lp h hp)
    replace h := h.sep (R := lb p_0 41 [one (eqVP h_0_0), one (eqVP h_0_1)]) (S := (RP.sep (acc h_0_0 9 1 strC s_0.f_Inputs) (mapR h_0_1 arrK (fun l => l.length = 32) (fun u y => acc u 9 1 strC y) s_0.f_Digests))) 3 rfl
    replace h := h.sep (R := acc h_0_0 9 1 strC s_0.f_Inputs) (S := (mapR h_0_1 arrK (fun l => l.length = 32) (fun u y => acc u 9 1 strC y) s_0.f_Digests)) 4 rfl
    replace h := h.sub [0, 1, 2, 3, 4, 5] (by rfl)
    change SatL c [.slot 0 (lpVP p_0 0), .slot 1 (aggVP [bytesCk 32 a_1]), .slot 2 (strVP a_2), .res (lb p_0 41 [one (eqVP h_0_0), one (eqVP h_0_1)]), .res (acc h_0_0 9 1 strC s_0.f_Inputs), .res (mapR h_0_1 arrK (fun l => l.length = 32) (fun u y => acc u 9 1 strC y) s_0.f_Digests)] a w at h
    refine wp_seq ?_
    refine region_do (n := 46) [.slot 4 0 100000 (fun v1_ _ => (lpVP v1_ 0)),
      .res 0 100000 (fun v1_ _ => (lb (v1_) 24 [bytesCk 32 a_1]))] [0, 0] [⟨[1], [], [6, 7], [], some 4⟩] [0, 2, 6, 3, 4, 5, 7] mixed hn hG h (by kernel_rfl) ?_ ?_
    · exact ⟨⟨rfl, fun β => (GOk.plain (op_box (opt 0 rfl) (cells_agg _)) rfl)⟩, trivial⟩
    clear h
    intro β a w h
    change SatL c [.slot 0 (lpVP p_0 0), .slot 2 (strVP a_2), .slot 4 (lpVP (β 0) 0), .res (lb p_0 41 [one (eqVP h_0_0), one (eqVP h_0_1)]), .res (acc h_0_0 9 1 strC s_0.f_Inputs), .res (mapR h_0_1 arrK (fun l => l.length = 32) (fun u y => acc u 9 1 strC y) s_0.f_Digests), .res (lb (β 0) 24 [bytesCk 32 a_1])] a w at h
    generalize β 0 = p3 at h
    clear β
    show Code.wp Tryd.prog _ _ a w
    refine wp_seq ?_
    refine wp_seq ?_
    refine region_do (n := 46) [.slot 8 100000 100000 (fun _ _ => (lpVP p_0 0)),
      .slot 9 100000 100000 (fun _ _ => (boolVP false))] [0, 1] [⟨[0], [], [7], [], some 8⟩, ⟨[7], [], [8], [0], some 9⟩] [0, 1, 2, 8, 3, 4, 5, 6] mixed hn hG h (by kernel_rfl) ?_ ?_
    · exact ⟨⟨rfl, fun β => (GOk.plain (op_move (opt 0 rfl)) rfl)⟩, ⟨rfl, fun β => (GOk.plain (op_bin (bin_pnil Tryd.underlying35) (lp_ptr (opt 0 rfl)) (opc (ec _))) rfl)⟩, trivial⟩
    clear h
    intro β a w h
    change SatL c [.slot 0 (lpVP p_0 0), .slot 2 (strVP a_2), .slot 4 (lpVP p3 0), .slot 9 (boolVP false), .res (lb p_0 41 [one (eqVP h_0_0), one (eqVP h_0_1)]), .res (acc h_0_0 9 1 strC s_0.f_Inputs), .res (mapR h_0_1 arrK (fun l => l.length = 32) (fun u y => acc u 9 1 strC y) s_0.f_Digests), .res (lb p3 24 [bytesCk 32 a_1])] a w at h
    clear β
    show Code.wp Tryd.prog _ _ a w
    refine cond_L h 3 rfl (fun hb4 => ?_) (fun hb4 => ?_)
    · cases hb4
    · skip
      replace h := h.sub [0, 1, 2, 4, 5, 6, 7] (by rfl)
      change SatL c [.slot 0 (lpVP p_0 0), .slot 2 (strVP a_2), .slot 4 (lpVP p3 0), .res (lb p_0 41 [one (eqVP h_0_0), one (eqVP h_0_1)]), .res (acc h_0_0 9 1 strC s_0.f_Inputs), .res (mapR h_0_1 arrK (fun l => l.length = 32) (fun u y => acc u 9 1 strC y) s_0.f_Digests), .res (lb p3 24 [bytesCk 32 a_1])] a w at h
      refine wp_skip ?_
      show Code.wp Tryd.prog _ _ a w
      refine wp_seq ?_
      refine wp_seq ?_
      refine region_do (n := 46) [.slot 10 100000 100000 (fun _ _ => (lpVP p_0 0)),
      .slot 11 100000 100000 (fun _ _ => (lpVP p_0 0)),
      .slot 12 100000 100000 (fun _ _ => (lpVP p_0 1)),
      .slot 13 100000 100000 (fun _ _ => (eqVP h_0_1)),
      .slot 14 100000 100000 (fun _ _ => (aggVP [bytesCk 32 a_1])),
      .slot 15 100000 100000 (fun _ _ => (slVP strC ((lkp a_1 s_0.f_Digests).getD []))),
      .slot 16 100000 100000 (fun _ _ => (intVP .i64 (((lkp a_1 s_0.f_Digests).getD []).length : Int))),
      .slot 17 100000 100000 (fun _ _ => (intVP .i64 0))] [0, 1, 2, 3, 4, 5, 6, 7] [⟨[0], [], [7], [], some 10⟩, ⟨[7], [], [8], [0], some 11⟩, ⟨[8], [], [9], [0, 1], some 12⟩, ⟨[9, 3], [], [10], [0, 1, 2], some 13⟩, ⟨[2, 6], [], [11], [], some 14⟩, ⟨[10, 11, 5], [], [12], [0, 1, 2, 3, 4], some 15⟩, ⟨[12], [], [13], [0, 1, 2, 3, 4, 5], some 16⟩, ⟨[], [], [14], [], some 17⟩] [0, 1, 2, 12, 13, 14, 3, 4, 5, 6] mixed hn hG h (by kernel_rfl) ?_ ?_
      · exact ⟨⟨rfl, fun β => (GOk.plain (op_move (opt 0 rfl)) rfl)⟩, ⟨rfl, fun β => (GOk.plain (op_nilCheck (opt 0 rfl) (ptr_lp _ _)) rfl)⟩, ⟨rfl, fun β => (GOk.plain (op_fieldAddr_lbm (p := p_0) (n := 1) 0 1 Tryd.underlying41 rfl Tryd.sizeOf39 (by decide) (opt 0 rfl) rfl) rfl)⟩, ⟨rfl, fun β => (GOk.plain (op_load_lb1 [one (eqVP h_0_0)] [] 1 Tryd.isAgg39 (opt 0 rfl) rfl rfl) rfl)⟩, ⟨rfl, fun β => (GOk.plain (op_load_lb [] [bytesCk 32 a_1] [] 1 Tryd.isAgg24 Tryd.sizeOf24 (opt 0 rfl) rfl rfl rfl) rfl)⟩, ⟨rfl, fun β => (GOk.plain (op_lookup (slVP strC) [] 2 Tryd.underlying39 (keyArr Tryd.underlying24 Tryd.underlying5 Tryd.type5 Tryd.sizeOf5 Tryd.isAgg5) Tryd.zeroValue22 (opt 0 rfl) (opt 1 rfl) hk_arr rfl res_id (fun _ _ _ _ _ h => acc_sl h) (fun _ => ⟨by decide, .inl ⟨rfl, rfl⟩⟩)) rfl)⟩, ⟨rfl, fun β => (GOk.plain (op_len_sl Tryd.underlying22 (opt 0 rfl)) rfl)⟩, ⟨rfl, fun β => (GOk.plain (op_move (opc (ic (by decide)))) rfl)⟩, trivial⟩
      clear h
      intro β a w h
      change SatL c [.slot 0 (lpVP p_0 0), .slot 2 (strVP a_2), .slot 4 (lpVP p3 0), .slot 15 (slVP strC ((lkp a_1 s_0.f_Digests).getD [])), .slot 16 (intVP .i64 (((lkp a_1 s_0.f_Digests).getD []).length : Int)), .slot 17 (intVP .i64 0), .res (lb p_0 41 [one (eqVP h_0_0), one (eqVP h_0_1)]), .res (acc h_0_0 9 1 strC s_0.f_Inputs), .res (mapR h_0_1 arrK (fun l => l.length = 32) (fun u y => acc u 9 1 strC y) s_0.f_Digests), .res (lb p3 24 [bytesCk 32 a_1])] a w at h
      clear β
      show Code.wp Tryd.prog _ _ a w
      refine wp_block ?_
      obtain ⟨cr16, hl17, hF⟩ := bind_some hF
      refine wp_mono (wp_loopN (R := (Option O_RLog)) (S := Int) (fun s a w => SatL c [.slot 0 (lpVP p_0 0), .slot 2 (strVP a_2), .slot 4 (lpVP p3 0), .slot 15 (slVP strC ((lkp a_1 s_0.f_Digests).getD [])), .slot 16 (intVP .i64 (((lkp a_1 s_0.f_Digests).getD []).length : Int)), .slot 17 (intVP .i64 s), .res (lb p_0 41 [one (eqVP h_0_0), one (eqVP h_0_1)]), .res (acc h_0_0 9 1 strC s_0.f_Inputs), .res (mapR h_0_1 arrK (fun l => l.length = 32) (fun u y => acc u 9 1 strC y) s_0.f_Digests), .res (lb p3 24 [bytesCk 32 a_1])] a w) (fun res e a w => match res with | .next s => e = .exit 0 ∧ SatL c [.slot 0 (lpVP p_0 0), .slot 2 (strVP a_2), .slot 4 (lpVP p3 0), .res (lb p_0 41 [one (eqVP h_0_0), one (eqVP h_0_1)]), .res (acc h_0_0 9 1 strC s_0.f_Inputs), .res (mapR h_0_1 arrK (fun l => l.length = 32) (fun u y => acc u 9 1 strC y) s_0.f_Digests), .res (lb p3 24 [bytesCk 32 a_1])] a w | .ret r => e = .ret ∧ RetOk Tryd.prog Tryd.f45 c (tupVP []) (fun _ => [RLog_e p_0 r]) a w) ?_ _ 0 _ _ _ (h.sub [0, 1, 2, 3, 4, 5, 6, 7, 8, 9] (by rfl)) hl17) ?_
      · clear hl17 hF h
        intro x8 a w o h hF
        change ref04_Log_Note.b1 s_0 a_1 a_2 x8 = some o at hF
        unfold ref04_Log_Note.b1 at hF
        change SatL c [.slot 0 (lpVP p_0 0), .slot 2 (strVP a_2), .slot 4 (lpVP p3 0), .slot 15 (slVP strC ((lkp a_1 s_0.f_Digests).getD [])), .slot 16 (intVP .i64 (((lkp a_1 s_0.f_Digests).getD []).length : Int)), .slot 17 (intVP .i64 x8), .res (lb p_0 41 [one (eqVP h_0_0), one (eqVP h_0_1)]), .res (acc h_0_0 9 1 strC s_0.f_Inputs), .res (mapR h_0_1 arrK (fun l => l.length = 32) (fun u y => acc u 9 1 strC y) s_0.f_Digests), .res (lb p3 24 [bytesCk 32 a_1])] a w at h
        refine wp_seq ?_
        refine region_do (n := 46) [.slot 18 100000 100000 (fun _ _ => (boolVP (decide (x8 < (((lkp a_1 s_0.f_Digests).getD []).length : Int)))))] [0] [⟨[5, 4], [], [10], [], some 18⟩] [0, 1, 2, 3, 4, 5, 10, 6, 7, 8, 9] mixed hn hG h (by kernel_rfl) ?_ ?_
        · exact ⟨⟨rfl, fun β => (GOk.plain (op_bin bin_lss (opt 0 rfl) (opt 1 rfl)) rfl)⟩, trivial⟩
        clear h
        intro β a w h
        change SatL c [.slot 0 (lpVP p_0 0), .slot 2 (strVP a_2), .slot 4 (lpVP p3 0), .slot 15 (slVP strC ((lkp a_1 s_0.f_Digests).getD [])), .slot 16 (intVP .i64 (((lkp a_1 s_0.f_Digests).getD []).length : Int)), .slot 17 (intVP .i64 x8), .slot 18 (boolVP (decide (x8 < (((lkp a_1 s_0.f_Digests).getD []).length : Int)))), .res (lb p_0 41 [one (eqVP h_0_0), one (eqVP h_0_1)]), .res (acc h_0_0 9 1 strC s_0.f_Inputs), .res (mapR h_0_1 arrK (fun l => l.length = 32) (fun u y => acc u 9 1 strC y) s_0.f_Digests), .res (lb p3 24 [bytesCk 32 a_1])] a w at h
        clear β
        show Code.wp Tryd.prog _ _ a w
        refine wp_seq ?_
        refine cond_L h 6 rfl (fun hb13 => ?_) (fun hb13 => ?_)
        · replace hF := tt_of hb13 hF
          replace h := h.sub [0, 1, 2, 3, 4, 5, 7, 8, 9, 10] (by rfl)
          change SatL c [.slot 0 (lpVP p_0 0), .slot 2 (strVP a_2), .slot 4 (lpVP p3 0), .slot 15 (slVP strC ((lkp a_1 s_0.f_Digests).getD [])), .slot 16 (intVP .i64 (((lkp a_1 s_0.f_Digests).getD []).length : Int)), .slot 17 (intVP .i64 x8), .res (lb p_0 41 [one (eqVP h_0_0), one (eqVP h_0_1)]), .res (acc h_0_0 9 1 strC s_0.f_Inputs), .res (mapR h_0_1 arrK (fun l => l.length = 32) (fun u y => acc u 9 1 strC y) s_0.f_Digests), .res (lb p3 24 [bytesCk 32 a_1])] a w at h
          refine wp_skip ?_
          show Code.wp Tryd.prog _ _ a w
          refine wp_seq ?_
          refine wp_block ?_
          refine wp_seq ?_
          obtain ⟨hv14, hF⟩ := ite_some hF
          refine region_do (n := 46) [.slot 19 100000 100000 (fun _ _ => (ppVP [one (strVP (((lkp a_1 s_0.f_Digests).getD []).getD x8.toNat default))])),
      .slot 20 100000 100000 (fun _ _ => (strVP (((lkp a_1 s_0.f_Digests).getD []).getD x8.toNat default))),
      .slot 7 100000 100000 (fun _ _ => (strVP (((lkp a_1 s_0.f_Digests).getD []).getD x8.toNat default)))] [0, 1, 2] [⟨[3, 5], [], [10], [], some 19⟩, ⟨[10], [], [11], [0], some 20⟩, ⟨[11], [], [12], [0, 1], some 7⟩] [0, 1, 2, 12, 3, 4, 5, 6, 7, 8, 9] mixed hn hG h (by kernel_rfl) ?_ ?_
          · exact ⟨⟨rfl, fun β => (GOk.plain (op_indexAddr_sl Tryd.underlying22 Tryd.sizeOf9 lens_strC (opt 0 rfl) (opt 1 rfl) hv14) rfl)⟩, ⟨rfl, fun β => (GOk.plain (op_load_pp1 [] Tryd.isAgg9 (opt 0 rfl)) rfl)⟩, ⟨rfl, fun β => (GOk.plain (op_assign (opt 0 rfl)) rfl)⟩, trivial⟩
          clear h
          intro β a w h
          change SatL c [.slot 0 (lpVP p_0 0), .slot 2 (strVP a_2), .slot 4 (lpVP p3 0), .slot 7 (strVP (((lkp a_1 s_0.f_Digests).getD []).getD x8.toNat default)), .slot 15 (slVP strC ((lkp a_1 s_0.f_Digests).getD [])), .slot 16 (intVP .i64 (((lkp a_1 s_0.f_Digests).getD []).length : Int)), .slot 17 (intVP .i64 x8), .res (lb p_0 41 [one (eqVP h_0_0), one (eqVP h_0_1)]), .res (acc h_0_0 9 1 strC s_0.f_Inputs), .res (mapR h_0_1 arrK (fun l => l.length = 32) (fun u y => acc u 9 1 strC y) s_0.f_Digests), .res (lb p3 24 [bytesCk 32 a_1])] a w at h
          clear β
          show Code.wp Tryd.prog _ _ a w
          refine wp_seq ?_
          refine region_do (n := 46) [.slot 21 100000 100000 (fun _ _ => (strVP (((lkp a_1 s_0.f_Digests).getD []).getD x8.toNat default))),
      .slot 22 100000 100000 (fun _ _ => (strVP a_2)),
      .slot 23 100000 100000 (fun _ _ => (boolVP (decide ((((lkp a_1 s_0.f_Digests).getD []).getD x8.toNat default) = a_2))))] [0, 1, 2] [⟨[3], [], [11], [], some 21⟩, ⟨[1], [], [12], [0], some 22⟩, ⟨[11, 12], [], [13], [0, 1], some 23⟩] [0, 1, 2, 4, 5, 6, 13, 7, 8, 9, 10] mixed hn hG h (by kernel_rfl) ?_ ?_
          · exact ⟨⟨rfl, fun β => (GOk.plain (op_move (opt 0 rfl)) rfl)⟩, ⟨rfl, fun β => (GOk.plain (op_move (opt 0 rfl)) rfl)⟩, ⟨rfl, fun β => (GOk.plain (op_bin bin_seql (opt 0 rfl) (opt 1 rfl)) rfl)⟩, trivial⟩
          clear h
          intro β a w h
          change SatL c [.slot 0 (lpVP p_0 0), .slot 2 (strVP a_2), .slot 4 (lpVP p3 0), .slot 15 (slVP strC ((lkp a_1 s_0.f_Digests).getD [])), .slot 16 (intVP .i64 (((lkp a_1 s_0.f_Digests).getD []).length : Int)), .slot 17 (intVP .i64 x8), .slot 23 (boolVP (decide ((((lkp a_1 s_0.f_Digests).getD []).getD x8.toNat default) = a_2))), .res (lb p_0 41 [one (eqVP h_0_0), one (eqVP h_0_1)]), .res (acc h_0_0 9 1 strC s_0.f_Inputs), .res (mapR h_0_1 arrK (fun l => l.length = 32) (fun u y => acc u 9 1 strC y) s_0.f_Digests), .res (lb p3 24 [bytesCk 32 a_1])] a w at h
          clear β
          show Code.wp Tryd.prog _ _ a w
          refine cond_L h 6 rfl (fun hb15 => ?_) (fun hb15 => ?_)
          · replace hF := tt_of hb15 hF
            replace h := h.sub [7, 8, 9] (by rfl)
            change SatL c [.res (lb p_0 41 [one (eqVP h_0_0), one (eqVP h_0_1)]), .res (acc h_0_0 9 1 strC s_0.f_Inputs), .res (mapR h_0_1 arrK (fun l => l.length = 32) (fun u y => acc u 9 1 strC y) s_0.f_Digests)] a w at h
            refine wp_ret ?_
            replace h := h.unsep 1 2 rfl rfl (by decide)
            replace h := h.unsep 0 1 rfl rfl (by decide)
            replace h := h.conv 0 rfl (R' := RLog_e p_0 (some s_0)) (RLog_packo (v0 := h_0_0) (v1 := h_0_1) (o := (some s_0)))
            replace h := h.sub [0] (by rfl)
            change SatL c [.res (RLog_e p_0 (some s_0))] a w at h
            obtain rfl := Option.some.inj hF
            exact ⟨ret_ne, rfl, retn h (rs := []) (Vs := []) Tryd.results45 (by decide) trivial [0] [(RLog_e p_0 (some s_0))] rfl rfl rfl⟩
          · replace hF := ff_of hb15 hF
            replace h := h.sub [0, 1, 2, 3, 4, 5, 7, 8, 9, 10] (by rfl)
            change SatL c [.slot 0 (lpVP p_0 0), .slot 2 (strVP a_2), .slot 4 (lpVP p3 0), .slot 15 (slVP strC ((lkp a_1 s_0.f_Digests).getD [])), .slot 16 (intVP .i64 (((lkp a_1 s_0.f_Digests).getD []).length : Int)), .slot 17 (intVP .i64 x8), .res (lb p_0 41 [one (eqVP h_0_0), one (eqVP h_0_1)]), .res (acc h_0_0 9 1 strC s_0.f_Inputs), .res (mapR h_0_1 arrK (fun l => l.length = 32) (fun u y => acc u 9 1 strC y) s_0.f_Digests), .res (lb p3 24 [bytesCk 32 a_1])] a w at h
            refine wp_skip ?_
            show Code.wp Tryd.prog _ _ a w
            refine region_do (n := 46) [.slot 24 100000 100000 (fun _ _ => (intVP .i64 (IntKind.wrap .i64 (x8 + 1)))),
      .slot 17 100000 100000 (fun _ _ => (intVP .i64 (IntKind.wrap .i64 (x8 + 1))))] [0, 1] [⟨[5], [], [10], [], some 24⟩, ⟨[10], [5], [11], [0], some 17⟩] [0, 1, 2, 3, 4, 11, 6, 7, 8, 9] mixed hn hG h (by kernel_rfl) ?_ ?_
            · exact ⟨⟨rfl, fun β => (GOk.plain (op_bin bin_add (opt 0 rfl) (opc (ic (by decide)))) rfl)⟩, ⟨rfl, fun β => (GOk.drop _ (GOk.plain (op_move (opt 0 rfl)) rfl))⟩, trivial⟩
            clear h
            intro β a w h
            change SatL c [.slot 0 (lpVP p_0 0), .slot 2 (strVP a_2), .slot 4 (lpVP p3 0), .slot 15 (slVP strC ((lkp a_1 s_0.f_Digests).getD [])), .slot 16 (intVP .i64 (((lkp a_1 s_0.f_Digests).getD []).length : Int)), .slot 17 (intVP .i64 (IntKind.wrap .i64 (x8 + 1))), .res (lb p_0 41 [one (eqVP h_0_0), one (eqVP h_0_1)]), .res (acc h_0_0 9 1 strC s_0.f_Inputs), .res (mapR h_0_1 arrK (fun l => l.length = 32) (fun u y => acc u 9 1 strC y) s_0.f_Digests), .res (lb p3 24 [bytesCk 32 a_1])] a w at h
            clear β
            obtain rfl := Option.some.inj hF
            exact ⟨rfl, h.sub [0, 1, 2, 3, 4, 5, 6, 7, 8, 9] (by rfl)⟩
        · replace hF := ff_of hb13 hF
          replace h := h.sub [0, 1, 2, 3, 4, 5, 7, 8, 9, 10] (by rfl)
          change SatL c [.slot 0 (lpVP p_0 0), .slot 2 (strVP a_2), .slot 4 (lpVP p3 0), .slot 15 (slVP strC ((lkp a_1 s_0.f_Digests).getD [])), .slot 16 (intVP .i64 (((lkp a_1 s_0.f_Digests).getD []).length : Int)), .slot 17 (intVP .i64 x8), .res (lb p_0 41 [one (eqVP h_0_0), one (eqVP h_0_1)]), .res (acc h_0_0 9 1 strC s_0.f_Inputs), .res (mapR h_0_1 arrK (fun l => l.length = 32) (fun u y => acc u 9 1 strC y) s_0.f_Digests), .res (lb p3 24 [bytesCk 32 a_1])] a w at h
          refine wp_exit ?_
          obtain rfl := Option.some.inj hF
          exact ⟨exit_ne _, rfl, h.sub [0, 1, 2, 6, 7, 8, 9] (by rfl)⟩
      · clear hl17
        intro e a w hq
        cases cr16 with
        | ret r18 =>
          obtain ⟨rfl, hq⟩ := hq
          obtain rfl := Option.some.inj hF
          exact ⟨.inl rfl, hq⟩
        | next y20 =>
          obtain ⟨rfl, h⟩ := hq
          change SatL c [.slot 0 (lpVP p_0 0), .slot 2 (strVP a_2), .slot 4 (lpVP p3 0), .res (lb p_0 41 [one (eqVP h_0_0), one (eqVP h_0_1)]), .res (acc h_0_0 9 1 strC s_0.f_Inputs), .res (mapR h_0_1 arrK (fun l => l.length = 32) (fun u y => acc u 9 1 strC y) s_0.f_Digests), .res (lb p3 24 [bytesCk 32 a_1])] a w at h
          refine inBlock_at ?_
          show Code.wp Tryd.prog _ _ a w
          refine wp_seq ?_
          obtain ⟨hv21, hF⟩ := ite_some hF
          refine region_do (n := 46) [.slot 25 100000 100000 (fun _ _ => (lpVP p_0 0)),
      .slot 26 100000 100000 (fun _ _ => (lpVP p_0 0)),
      .slot 27 100000 100000 (fun _ _ => (lpVP p_0 1)),
      .slot 28 100000 100000 (fun _ _ => (eqVP h_0_1)),
      .slot 29 100000 100000 (fun _ _ => (aggVP [bytesCk 32 a_1])),
      .slot 31 100000 100000 (fun _ _ => (strVP a_2)),
      .slot 32 100000 100000 (fun _ _ => (slVP strC [a_2])),
      .slot 33 7 100000 (fun v1_ _ => (tupVP [(eqVP (tup0 v1_)), (eqVP (tup1 v1_))])),
      .res 7 100000 (fun v1_ _ => (acc (tup0 v1_) 9 1 strC ((lkp a_1 s_0.f_Digests).getD ([] : List (List UInt8))))),
      .res 7 100000 (fun v1_ _ => (mapH h_0_1 (tup1 v1_) arrK (fun l => l.length = 32) (fun u y => acc u 9 1 strC y) a_1 (ens a_1 ([] : List (List UInt8)) s_0.f_Digests))),
      .slot 30 7 100000 (fun v1_ _ => (eqVP (tup0 v1_))),
      .slot 34 9 100000 (fun v1_ _ => (eqVP v1_)),
      .res 9 100000 (fun v1_ _ => (acc (v1_) 9 1 strC (((lkp a_1 s_0.f_Digests).getD ([] : List (List UInt8))) ++ [a_2]))),
      .slot 35 7 100000 (fun v1_ _ => (eqVP (tup1 v1_))),
      .res 100000 100000 (fun _ _ => (mapR h_0_1 arrK (fun l => l.length = 32) (fun u y => acc u 9 1 strC y) (upd a_1 (((lkp a_1 s_0.f_Digests).getD ([] : List (List UInt8))) ++ [a_2]) (ens a_1 ([] : List (List UInt8)) s_0.f_Digests))))] [0, 1, 2, 3, 4, 5, 6, 7, 7, 7, 8, 9, 9, 10, 11] [⟨[0], [], [7], [], some 25⟩, ⟨[7], [], [8], [0], some 26⟩, ⟨[8], [], [9], [0, 1], some 27⟩, ⟨[9, 3], [], [10], [0, 1, 2], some 28⟩, ⟨[2, 6], [], [11], [], some 29⟩, ⟨[1], [], [12], [], some 31⟩, ⟨[12], [], [13], [5], some 32⟩, ⟨[10, 11], [5], [14, 15, 16], [0, 1, 2, 3, 4, 5, 6], some 33⟩, ⟨[14], [], [17], [0, 1, 2, 3, 4, 5, 6, 7], some 30⟩, ⟨[17, 13], [15], [18, 19], [0, 1, 2, 3, 4, 5, 6, 7, 8], some 34⟩, ⟨[14], [], [20], [0, 1, 2, 3, 4, 5, 6, 7], some 35⟩, ⟨[10, 20, 18], [19, 16], [21], [0, 1, 2, 3, 4, 5, 6, 7, 8, 9, 10], none⟩] [0, 1, 3, 4, 21] mixed hn hG h (by kernel_rfl) ?_ ?_
          · exact ⟨⟨rfl, fun β => (GOk.plain (op_move (opt 0 rfl)) rfl)⟩, ⟨rfl, fun β => (GOk.plain (op_nilCheck (opt 0 rfl) (ptr_lp _ _)) rfl)⟩, ⟨rfl, fun β => (GOk.plain (op_fieldAddr_lbm (p := p_0) (n := 1) 0 1 Tryd.underlying41 rfl Tryd.sizeOf39 (by decide) (opt 0 rfl) rfl) rfl)⟩, ⟨rfl, fun β => (GOk.plain (op_load_lb1 [one (eqVP h_0_0)] [] 1 Tryd.isAgg39 (opt 0 rfl) rfl rfl) rfl)⟩, ⟨rfl, fun β => (GOk.plain (op_load_lb [] [bytesCk 32 a_1] [] 1 Tryd.isAgg24 Tryd.sizeOf24 (opt 0 rfl) rfl rfl rfl) rfl)⟩, ⟨rfl, fun β => (GOk.plain (op_move (opt 0 rfl)) rfl)⟩, ⟨rfl, fun β => (GOk.plain (op_lit (xs := [.tmp 31]) (ys := [a_2]) _ rfl Tryd.underlying22 Tryd.sizeOf9 Tryd.zeroValue9 rfl rfl (by decide) (by decide) ⟨⟨_, (opt 0 rfl), (cells_one (one_str _))⟩, trivial⟩ lens_strC) rfl)⟩, ⟨rfl, fun β => (GOk.plain (op_mapEntry ([] : List (List UInt8)) Tryd.underlying39 (keyArr Tryd.underlying24 Tryd.underlying5 Tryd.type5 Tryd.sizeOf5 Tryd.isAgg5) Tryd.zeroValue22 (opt 0 rfl) (opt 1 rfl) hk_arr (fun _ _ => ⟨by decide, .inl ⟨rfl, rfl, rfl⟩⟩)) rfl)⟩, ⟨rfl, fun β => (GOk.plain (op_extract (V := (eqVP (tup0 (β 7)))) (opt 0 rfl) rfl) rfl)⟩, ⟨rfl, fun β => (GOk.plain (op_append (i := Tryd.t9) Tryd.underlying22 Tryd.type9 rfl lens_strC (by decide) rfl (opt 0 rfl) (opt 1 rfl) hv21) rfl)⟩, ⟨rfl, fun β => (GOk.plain (op_extract (V := (eqVP (tup1 (β 7)))) (opt 0 rfl) rfl) rfl)⟩, ⟨rfl, fun β => (GOk.plain (op_entryStore (eR := (fun u y => acc u 9 1 strC y)) (u := (β 9)) (n := (((lkp a_1 s_0.f_Digests).getD ([] : List (List UInt8))) ++ [a_2])) (opt 0 rfl) (opt 1 rfl) (opt 2 rfl)) rfl)⟩, trivial⟩
          clear h
          intro β a w h
          change SatL c [.slot 0 (lpVP p_0 0), .slot 2 (strVP a_2), .res (lb p_0 41 [one (eqVP h_0_0), one (eqVP h_0_1)]), .res (acc h_0_0 9 1 strC s_0.f_Inputs), .res (mapR h_0_1 arrK (fun l => l.length = 32) (fun u y => acc u 9 1 strC y) (upd a_1 (((lkp a_1 s_0.f_Digests).getD ([] : List (List UInt8))) ++ [a_2]) (ens a_1 ([] : List (List UInt8)) s_0.f_Digests)))] a w at h
          clear β
          show Code.wp Tryd.prog _ _ a w
          obtain ⟨hv22, hF⟩ := ite_some hF
          refine region_do (n := 46) [.slot 36 100000 100000 (fun _ _ => (lpVP p_0 0)),
      .slot 37 100000 100000 (fun _ _ => (lpVP p_0 0)),
      .slot 38 100000 100000 (fun _ _ => (lpVP p_0 0)),
      .slot 39 100000 100000 (fun _ _ => (lpVP p_0 0)),
      .slot 40 100000 100000 (fun _ _ => (eqVP h_0_0)),
      .slot 41 100000 100000 (fun _ _ => (strVP a_2)),
      .slot 42 100000 100000 (fun _ _ => (slVP strC [a_2])),
      .slot 43 7 100000 (fun v1_ _ => (eqVP v1_)),
      .res 7 100000 (fun v1_ _ => (acc (v1_) 9 1 strC (s_0.f_Inputs ++ [a_2]))),
      .slot 44 100000 100000 (fun _ _ => (lpVP p_0 0)),
      .slot 45 100000 100000 (fun _ _ => (lpVP p_0 0)),
      .res 7 100000 (fun v1_ _ => (lb p_0 41 [one (eqVP (v1_)), one (eqVP h_0_1)]))] [0, 1, 2, 3, 4, 5, 6, 7, 7, 8, 9, 10] [⟨[0], [], [5], [], some 36⟩, ⟨[0], [], [6], [0], some 37⟩, ⟨[6], [], [7], [0, 1], some 38⟩, ⟨[7], [], [8], [0, 1, 2], some 39⟩, ⟨[8, 2], [], [9], [0, 1, 2, 3], some 40⟩, ⟨[1], [], [10], [0, 1, 2, 3, 4], some 41⟩, ⟨[10], [], [11], [0, 1, 2, 3, 4, 5], some 42⟩, ⟨[9, 11], [3], [12, 13], [0, 1, 2, 3, 4, 5, 6], some 43⟩, ⟨[5], [], [14], [0, 1, 2, 3, 4, 5, 6, 7], some 44⟩, ⟨[14], [], [15], [0, 1, 2, 3, 4, 5, 6, 7, 8], some 45⟩, ⟨[15, 12, 13], [2], [16], [0, 1, 2, 3, 4, 5, 6, 7, 8, 9], none⟩] [16, 4, 13] mixed hn hG h (by kernel_rfl) ?_ ?_
          · exact ⟨⟨rfl, fun β => (GOk.plain (op_move (opt 0 rfl)) rfl)⟩, ⟨rfl, fun β => (GOk.plain (op_move (opt 0 rfl)) rfl)⟩, ⟨rfl, fun β => (GOk.plain (op_nilCheck (opt 0 rfl) (ptr_lp _ _)) rfl)⟩, ⟨rfl, fun β => (GOk.plain (op_fieldAddr_lbm (p := p_0) (n := 1) 0 0 Tryd.underlying41 rfl Tryd.sizeOf22 (by decide) (opt 0 rfl) rfl) rfl)⟩, ⟨rfl, fun β => (GOk.plain (op_load_lb1 [] [one (eqVP h_0_1)] 1 Tryd.isAgg22 (opt 0 rfl) rfl rfl) rfl)⟩, ⟨rfl, fun β => (GOk.plain (op_move (opt 0 rfl)) rfl)⟩, ⟨rfl, fun β => (GOk.plain (op_lit (xs := [.tmp 41]) (ys := [a_2]) _ rfl Tryd.underlying22 Tryd.sizeOf9 Tryd.zeroValue9 rfl rfl (by decide) (by decide) ⟨⟨_, (opt 0 rfl), (cells_one (one_str _))⟩, trivial⟩ lens_strC) rfl)⟩, ⟨rfl, fun β => (GOk.plain (op_append (i := Tryd.t9) Tryd.underlying22 Tryd.type9 rfl lens_strC (by decide) rfl (opt 0 rfl) (opt 1 rfl) hv22) rfl)⟩, ⟨rfl, fun β => (GOk.plain (op_nilCheck (opt 0 rfl) (ptr_lp _ _)) rfl)⟩, ⟨rfl, fun β => (GOk.plain (op_fieldAddr_lbm (p := p_0) (n := 1) 0 0 Tryd.underlying41 rfl Tryd.sizeOf22 (by decide) (opt 0 rfl) rfl) rfl)⟩, ⟨rfl, fun β => (GOk.plain (op_store_lb [] [one (eqVP h_0_0)] [one (eqVP h_0_1)] [one (eqVP ((β 7)))] Tryd.sizeOf22 (opt 0 rfl) (opone 1 2 rfl rfl acc_one) (cells_h _) rfl rfl rfl) rfl)⟩, trivial⟩
          clear h
          intro β a w h
          change SatL c [.res (lb p_0 41 [one (eqVP (β 7)), one (eqVP h_0_1)]), .res (mapR h_0_1 arrK (fun l => l.length = 32) (fun u y => acc u 9 1 strC y) (upd a_1 (((lkp a_1 s_0.f_Digests).getD ([] : List (List UInt8))) ++ [a_2]) (ens a_1 ([] : List (List UInt8)) s_0.f_Digests))), .res (acc (β 7) 9 1 strC (s_0.f_Inputs ++ [a_2]))] a w at h
          generalize β 7 = p23 at h
          clear β
          replace h := h.unsep 2 1 rfl rfl (by decide)
          replace h := h.unsep 0 2 rfl rfl (by decide)
          replace h := h.conv 0 rfl (R' := RLog_e p_0 (some ⟨s_0.f_Inputs ++ [a_2], upd a_1 (((lkp a_1 s_0.f_Digests).getD ([] : List (List UInt8))) ++ [a_2]) (ens a_1 ([] : List (List UInt8)) s_0.f_Digests)⟩)) (RLog_packo (v0 := p23) (v1 := h_0_1) (o := (some ⟨s_0.f_Inputs ++ [a_2], upd a_1 (((lkp a_1 s_0.f_Digests).getD ([] : List (List UInt8))) ++ [a_2]) (ens a_1 ([] : List (List UInt8)) s_0.f_Digests)⟩)))
          replace h := h.sub [0] (by rfl)
          change SatL c [.res (RLog_e p_0 (some ⟨s_0.f_Inputs ++ [a_2], upd a_1 (((lkp a_1 s_0.f_Digests).getD ([] : List (List UInt8))) ++ [a_2]) (ens a_1 ([] : List (List UInt8)) s_0.f_Digests)⟩))] a w at h
          obtain rfl := Option.some.inj hF
          exact ⟨.inr rfl, retn h (rs := []) (Vs := []) Tryd.results45 (by decide) trivial [0] [(RLog_e p_0 (some ⟨s_0.f_Inputs ++ [a_2], upd a_1 (((lkp a_1 s_0.f_Digests).getD ([] : List (List UInt8))) ++ [a_2]) (ens a_1 ([] : List (List UInt8)) s_0.f_Digests)⟩))] rfl rfl rfl⟩

def ref04_Log_Of (L_0 : Option O_RLog) (a_1 : Int) (a_2 : List (List UInt8)) : Option ((List UInt8) × (Option O_RLog)) := ((ref04_Input a_1 a_2).bind fun r2 => ((ref01_Sum r2).bind fun r3 => ((ref04_Log_Note L_0 r3 r2).bind fun r5 => some (r3, r5))))
theorem ref04_Log_Of_ok {p_0 : Value} {L_0 : Option O_RLog} {a_1 : Int} {a_2 : List (List UInt8)} {r : (List UInt8) × (Option O_RLog)} (hF : ref04_Log_Of L_0 a_1 a_2 = some r) : CallOk Tryd.prog KG 20 [(eqVP p_0), (intVP .u8 a_1), (slVP strC a_2)] [(RLog_e p_0 L_0)] (fun _ => [RLog_e p_0 r.2]) (aggVP [bytesCk 32 r.1]) := by
  refine CallOk.intro 19 Tryd.func20 rfl Tryd.ntmps20 (Nat.le_of_ble_eq_true rfl) ?_
  intro c a w hG hn h
  unfold ref04_Log_Of at hF
  change SatL c [.slot 0 (eqVP p_0), .slot 1 (intVP .u8 a_1), .slot 2 (slVP strC a_2), .res (RLog_e p_0 L_0)] a w at h
  refine wp_seq ?_
  refine region_do (n := 19) [.slot 6 0 100000 (fun v1_ _ => (lpVP v1_ 0)),
      .res 0 100000 (fun v1_ _ => (lb (v1_) 24 [bytesCk 32 (List.replicate 32 0)]))] [0, 0] [⟨[], [], [4, 5], [], some 6⟩] [0, 1, 2, 4, 3, 5] mixed hn hG h (by kernel_rfl) ?_ ?_
  · exact ⟨⟨rfl, fun β => (GOk.plain (op_alloc Tryd.zeroValue24 z24) rfl)⟩, trivial⟩
  clear h
  intro β a w h
  change SatL c [.slot 0 (eqVP p_0), .slot 1 (intVP .u8 a_1), .slot 2 (slVP strC a_2), .slot 6 (lpVP (β 0) 0), .res (RLog_e p_0 L_0), .res (lb (β 0) 24 [bytesCk 32 (List.replicate 32 0)])] a w at h
  generalize β 0 = p1 at h
  clear β
  show Code.wp Tryd.prog _ _ a w
  refine wp_seq ?_
  obtain ⟨r2, hr2, hF⟩ := bind_some hF
  refine region_do (n := 19) [.slot 9 100000 100000 (fun _ _ => (intVP .u8 a_1)),
      .slot 10 100000 100000 (fun _ _ => (slVP strC a_2)),
      .slot 11 100000 100000 (fun _ _ => (strVP r2)),
      .slot 7 100000 100000 (fun _ _ => (strVP r2))] [0, 1, 2, 3] [⟨[1], [], [6], [], some 9⟩, ⟨[2], [], [7], [0], some 10⟩, ⟨[6, 7], [], [8], [0, 1], some 11⟩, ⟨[8], [], [9], [0, 1, 2], some 7⟩] [0, 3, 9, 4, 5] mixed hn hG h (by kernel_rfl) ?_ ?_
  · exact ⟨⟨rfl, fun β => (GOk.plain (op_move (opt 0 rfl)) rfl)⟩, ⟨rfl, fun β => (GOk.plain (op_move (opt 0 rfl)) rfl)⟩, ⟨rfl, fun β => (GOk.plain (op_call Tryd.call43 (ref04_Input_ok hr2) ⟨(opt 0 rfl), (opt 1 rfl), trivial⟩) rfl)⟩, ⟨rfl, fun β => (GOk.plain (op_assign (opt 0 rfl)) rfl)⟩, trivial⟩
  clear h
  intro β a w h
  change SatL c [.slot 0 (eqVP p_0), .slot 6 (lpVP p1 0), .slot 7 (strVP r2), .res (RLog_e p_0 L_0), .res (lb p1 24 [bytesCk 32 (List.replicate 32 0)])] a w at h
  clear β
  show Code.wp Tryd.prog _ _ a w
  refine wp_seq ?_
  obtain ⟨r3, hr3, hF⟩ := bind_some hF
  refine region_do (n := 19) [.slot 12 100000 100000 (fun _ _ => (strVP r2)),
      .slot 13 100000 100000 (fun _ _ => (aggVP [bytesCk 32 r3])),
      .slot 8 2 100000 (fun v1_ _ => (lpVP v1_ 0)),
      .res 2 100000 (fun v1_ _ => (lb (v1_) 24 [bytesCk 32 (List.replicate 32 0)])),
      .res 2 100000 (fun v1_ _ => (lb (v1_) 24 [bytesCk 32 r3]))] [0, 1, 2, 2, 3] [⟨[2], [], [5], [], some 12⟩, ⟨[5], [], [6], [0], some 13⟩, ⟨[], [], [7, 8], [0, 1], some 8⟩, ⟨[7, 6], [8], [9], [0, 1, 2], none⟩] [0, 1, 2, 7, 3, 4, 9] mixed hn hG h (by kernel_rfl) ?_ ?_
  · exact ⟨⟨rfl, fun β => (GOk.plain (op_move (opt 0 rfl)) rfl)⟩, ⟨rfl, fun β => (GOk.plain (op_call Tryd.call44 (ref01_Sum_ok hr3) ⟨(opt 0 rfl), trivial⟩) rfl)⟩, ⟨rfl, fun β => (GOk.plain (op_alloc Tryd.zeroValue24 z24) rfl)⟩, ⟨rfl, fun β => (GOk.plain (op_store_lb [] [bytesCk 32 (List.replicate 32 0)] [] [bytesCk 32 r3] Tryd.sizeOf24 (opt 0 rfl) (opt 1 rfl) (cells_agg _) rfl rfl rfl) rfl)⟩, trivial⟩
  clear h
  intro β a w h
  change SatL c [.slot 0 (eqVP p_0), .slot 6 (lpVP p1 0), .slot 7 (strVP r2), .slot 8 (lpVP (β 2) 0), .res (RLog_e p_0 L_0), .res (lb p1 24 [bytesCk 32 (List.replicate 32 0)]), .res (lb (β 2) 24 [bytesCk 32 r3])] a w at h
  generalize β 2 = p4 at h
  clear β
  show Code.wp Tryd.prog _ _ a w
  refine wp_seq ?_
  obtain ⟨r5, hr5, hF⟩ := bind_some hF
  refine region_do (n := 19) [.slot 14 100000 100000 (fun _ _ => (eqVP p_0)),
      .slot 15 100000 100000 (fun _ _ => (aggVP [bytesCk 32 r3])),
      .slot 16 100000 100000 (fun _ _ => (strVP r2)),
      .slot 17 100000 100000 (fun _ _ => (tupVP [])),
      .res 100000 100000 (fun _ _ => (RLog_e p_0 r5))] [0, 1, 2, 3, 3] [⟨[0], [], [7], [], some 14⟩, ⟨[3, 6], [], [8], [0], some 15⟩, ⟨[2], [], [9], [0, 1], some 16⟩, ⟨[7, 8, 9], [4], [10, 11], [0, 1, 2], some 17⟩] [1, 3, 5, 6, 11] mixed hn hG h (by kernel_rfl) ?_ ?_
  · exact ⟨⟨rfl, fun β => (GOk.plain (op_move (opt 0 rfl)) rfl)⟩, ⟨rfl, fun β => (GOk.plain (op_load_lb [] [bytesCk 32 r3] [] 1 Tryd.isAgg24 Tryd.sizeOf24 (opt 0 rfl) rfl rfl rfl) rfl)⟩, ⟨rfl, fun β => (GOk.plain (op_move (opt 0 rfl)) rfl)⟩, ⟨rfl, fun β => (GOk.plain (op_call Tryd.call45 (ref04_Log_Note_ok hr5) ⟨(opt 0 rfl), (opt 1 rfl), (opt 2 rfl), trivial⟩) rfl)⟩, trivial⟩
  clear h
  intro β a w h
  change SatL c [.slot 6 (lpVP p1 0), .slot 8 (lpVP p4 0), .res (lb p1 24 [bytesCk 32 (List.replicate 32 0)]), .res (lb p4 24 [bytesCk 32 r3]), .res (RLog_e p_0 r5)] a w at h
  clear β
  show Code.wp Tryd.prog _ _ a w
  refine wp_seq ?_
  refine region_do (n := 19) [.slot 18 100000 100000 (fun _ _ => (aggVP [bytesCk 32 r3])),
      .res 100000 100000 (fun _ _ => (lb p1 24 [bytesCk 32 r3]))] [0, 1] [⟨[1, 3], [], [5], [], some 18⟩, ⟨[0, 5], [2], [6], [0], none⟩] [0, 6, 4] mixed hn hG h (by kernel_rfl) ?_ ?_
  · exact ⟨⟨rfl, fun β => (GOk.plain (op_load_lb [] [bytesCk 32 r3] [] 1 Tryd.isAgg24 Tryd.sizeOf24 (opt 0 rfl) rfl rfl rfl) rfl)⟩, ⟨rfl, fun β => (GOk.plain (op_store_lb [] [bytesCk 32 (List.replicate 32 0)] [] [bytesCk 32 r3] Tryd.sizeOf24 (opt 0 rfl) (opt 1 rfl) (cells_agg _) rfl rfl rfl) rfl)⟩, trivial⟩
  clear h
  intro β a w h
  change SatL c [.slot 6 (lpVP p1 0), .res (lb p1 24 [bytesCk 32 r3]), .res (RLog_e p_0 r5)] a w at h
  clear β
  show Code.wp Tryd.prog _ _ a w
  refine wp_ret ?_
  obtain rfl := Option.some.inj hF
  exact ⟨.inl rfl, ret1 h Tryd.results20 (r_cell 0 1 rfl rfl Tryd.isAgg24 Tryd.sizeOf24 rfl) [2] [(RLog_e p_0 r5)] rfl rfl rfl⟩

theorem foldO_step {α σ : Type} {f : σ → α → Option σ} {dn rem : List α} {x : α} {s s0 : σ} (hfo : foldO f dn s0 = some s) (h : ∃ t, foldO f (dn ++ x :: rem) s0 = some t) : ∃ s', f s x = some s' ∧ foldO f (dn ++ [x]) s0 = some s' := by
  obtain ⟨t, ht⟩ := h
  rw [foldO_append, hfo] at ht
  have ht : (f s x).bind (foldO f rem) = some t := ht
  cases hs : f s x with
  | none => rw [hs] at ht; cases ht
  | some s' =>
    refine ⟨s', rfl, ?_⟩
    rw [foldO_append, hfo]
    show (f s x).bind (foldO f []) = _
    rw [hs]
    rfl
/-- What a log that another one is joined to is, whatever the order. -/
def JoinAll (L M : Option O_Log) (K : Option O_Log → Prop) : Prop := match M with
  | none => K L
  | some m => ∀ d1, d1.Perm m.f_inputs → ∃ l1, foldO (fun L x => digest_Log_note L x.1 x.2) d1 L = some l1 ∧ ∀ d2, d2.Perm m.f_others → ∃ l2, foldO (fun L x => (sha_Sum [x.1]).bind fun g => digest_Log_note L g x.1) d2 l1 = some l2 ∧ K l2
theorem joinAll_get {L : Option O_Log} {m : O_Log} {K : Option O_Log → Prop} (h : JoinAll L (some m) K) : (∀ d1, d1.Perm m.f_inputs → ∃ t, foldO (fun L x => digest_Log_note L x.1 x.2) d1 L = some t) ∧
    (∀ d1, d1.Perm m.f_inputs → ∀ l1, foldO (fun L x => digest_Log_note L x.1 x.2) d1 L = some l1 → ∀ d2, d2.Perm m.f_others → ∃ t, foldO (fun L x => (sha_Sum [x.1]).bind fun g => digest_Log_note L g x.1) d2 l1 = some t) ∧
    (∀ d1, d1.Perm m.f_inputs → ∀ l1, foldO (fun L x => digest_Log_note L x.1 x.2) d1 L = some l1 → ∀ d2, d2.Perm m.f_others → ∀ l2, foldO (fun L x => (sha_Sum [x.1]).bind fun g => digest_Log_note L g x.1) d2 l1 = some l2 → K l2) := by
  refine ⟨fun d1 h1 => ?_, fun d1 h1 l1 e1 d2 h2 => ?_, fun d1 h1 l1 e1 d2 h2 l2 e2 => ?_⟩
  · obtain ⟨l1, e1, _⟩ := h d1 h1; exact ⟨l1, e1⟩
  · obtain ⟨l1', e1', k⟩ := h d1 h1
    rw [e1] at e1'; obtain rfl := Option.some.inj e1'
    obtain ⟨l2, e2, _⟩ := k d2 h2; exact ⟨l2, e2⟩
  · obtain ⟨l1', e1', k⟩ := h d1 h1
    rw [e1] at e1'; obtain rfl := Option.some.inj e1'
    obtain ⟨l2', e2', k2⟩ := k d2 h2
    rw [e2] at e2'; obtain rfl := Option.some.inj e2'
    exact k2
noncomputable def joinAll {γ : Type} (L M : Option O_Log) (k : Option O_Log → Option γ) : Option γ := open Classical in if h : ∃ r, JoinAll L M (fun l => k l = some r) then some (Classical.choose h) else none
theorem joinAll_some {γ : Type} {L M : Option O_Log} {k : Option O_Log → Option γ} {r : γ} (h : joinAll L M k = some r) : ∃ K : Option O_Log → Prop, (∀ l, K l → k l = some r) ∧ JoinAll L M K := by
  unfold joinAll at h
  split at h
  · rename_i hx
    have hr := Option.some.inj h
    refine ⟨fun l => k l = some r, fun l hl => hl, ?_⟩
    rw [← hr]
    exact Classical.choose_spec hx
  · cases h
theorem joinAll_intro {γ : Type} {L M : Option O_Log} {k : Option O_Log → Option γ} {r : γ} (h : JoinAll L M (fun l => k l = some r)) (hu : ∀ r', JoinAll L M (fun l => k l = some r') → r' = r) : joinAll L M k = some r := by
  unfold joinAll
  have hx : ∃ r, JoinAll L M (fun l => k l = some r) := ⟨r, h⟩
  rw [dif_pos hx]
  exact congrArg some (hu _ (Classical.choose_spec hx))
theorem digest_Log_Join_ok {p_0 : Value} {p_1 : Value} {L_0 : Option O_Log} {L_1 : Option O_Log} {K : Option O_Log → Prop} (hF : JoinAll L_0 L_1 K) : CallOk Tryd.prog KG 23 [(eqVP p_0), (eqVP p_1)] [(Log_e p_0 L_0), (Log_e p_1 L_1)] (fun _ => [RP.ex fun l => RP.sep (RP.is (K l)) (Log_e p_0 l), Log_e p_1 L_1]) (tupVP []) := by
  refine CallOk.intro 38 Tryd.func23 rfl Tryd.ntmps23 (Nat.le_of_ble_eq_true rfl) ?_
  intro c a w hG hn h
  change SatL c [.slot 0 (eqVP p_0), .slot 1 (eqVP p_1), .res (Log_e p_0 L_0), .res (Log_e p_1 L_1)] a w at h
  obtain ⟨h_1_0, h⟩ := h.ex 3 rfl
  obtain ⟨h_1_1, h⟩ := h.ex 3 rfl
  change SatL c [.slot 0 (eqVP p_0), .slot 1 (eqVP p_1), .res (Log_e p_0 L_0), .res (Log_o p_1 h_1_0 h_1_1 L_1)] a w at h
  cases L_1 with
  | none =>
    have hK : K L_0 := hF
    obtain rfl := h.isp 3 rfl (fun _ _ _ q => q.2)
    replace h := h.slotc 1 rfl (V' := ptrVP (.pointer none) false) (fun _ _ h => ⟨h, rfl⟩)
    change SatL c [.slot 0 (eqVP p_0), .slot 1 (ptrVP (.pointer none) false), .res (Log_e p_0 L_0), .res (Log_o (.pointer none) h_1_0 h_1_1 none)] a w at h
    refine wp_seq ?_
    refine wp_seq ?_
    refine region_do (n := 38) [.slot 7 100000 100000 (fun _ _ => (ptrVP (.pointer none) false)),
      .slot 8 100000 100000 (fun _ _ => (boolVP true))] [0, 1] [⟨[1], [], [4], [], some 7⟩, ⟨[4], [], [5], [0], some 8⟩] [0, 1, 5, 2, 3] mixed hn hG h (by kernel_rfl) ?_ ?_
    · exact ⟨⟨rfl, fun β => (GOk.plain (op_move (opt 0 rfl)) rfl)⟩, ⟨rfl, fun β => (GOk.plain (op_bin (bin_pnil Tryd.underlying30) (opt 0 rfl) (opc (ec _))) rfl)⟩, trivial⟩
    clear h
    intro β a w h
    change SatL c [.slot 0 (eqVP p_0), .slot 1 (ptrVP (.pointer none) false), .slot 8 (boolVP true), .res (Log_e p_0 L_0), .res (Log_o (.pointer none) h_1_0 h_1_1 none)] a w at h
    clear β
    show Code.wp Tryd.prog _ _ a w
    refine cond_L h 2 rfl (fun hb1 => ?_) (fun hb1 => ?_)
    · skip
      replace h := h.sub [3, 4] (by rfl)
      change SatL c [.res (Log_e p_0 L_0), .res (Log_o (.pointer none) h_1_0 h_1_1 none)] a w at h
      refine wp_ret ?_
      replace h := h.conv 1 rfl Log_packo
      change SatL c [.res (Log_e p_0 L_0), .res (Log_e (.pointer none) none)] a w at h
      replace h := h.conv 0 rfl (R' := RP.ex fun l => RP.sep (RP.is (K l)) (Log_e p_0 l)) (fun _ _ _ q => ⟨L_0, [], _, rfl, ⟨rfl, hK⟩, q⟩)
      exact ⟨.inl rfl, retn h (rs := []) (Vs := []) Tryd.results23 (by decide) trivial [0, 1] [RP.ex fun l => RP.sep (RP.is (K l)) (Log_e p_0 l), (Log_e (.pointer none) none)] rfl rfl rfl⟩
    · cases hb1
  | some s_1 =>
    obtain ⟨hall1, hall2, hKall⟩ := joinAll_get hF
    have hp := h.isp 3 rfl (fun Φ f w q => Log_lp Φ f w q)
    replace h := h.slotc 1 rfl (V' := lpVP p_1 0) (fun _ _ h => eq_lp h hp)
    replace h := h.sep (R := lb p_1 71 [one (eqVP h_1_0), one (eqVP h_1_1)]) (S := (RP.sep (mapR h_1_0 arrK (fun l => l.length = 32) (fun u y => RP.val (strVP y) u) s_1.f_inputs) (mapR h_1_1 strK (fun l => l.length ≤ mxl) (fun u y => RP.val (boolVP y) u) s_1.f_others))) 3 rfl
    replace h := h.sep (R := mapR h_1_0 arrK (fun l => l.length = 32) (fun u y => RP.val (strVP y) u) s_1.f_inputs) (S := (mapR h_1_1 strK (fun l => l.length ≤ mxl) (fun u y => RP.val (boolVP y) u) s_1.f_others)) 4 rfl
    replace h := h.sub [0, 1, 2, 3, 4, 5] (by rfl)
    change SatL c [.slot 0 (eqVP p_0), .slot 1 (lpVP p_1 0), .res (Log_e p_0 L_0), .res (lb p_1 71 [one (eqVP h_1_0), one (eqVP h_1_1)]), .res (mapR h_1_0 arrK (fun l => l.length = 32) (fun u y => RP.val (strVP y) u) s_1.f_inputs), .res (mapR h_1_1 strK (fun l => l.length ≤ mxl) (fun u y => RP.val (boolVP y) u) s_1.f_others)] a w at h
    refine wp_seq ?_
    refine wp_seq ?_
    refine region_do (n := 38) [.slot 7 100000 100000 (fun _ _ => (lpVP p_1 0)),
      .slot 8 100000 100000 (fun _ _ => (boolVP false))] [0, 1] [⟨[1], [], [6], [], some 7⟩, ⟨[6], [], [7], [0], some 8⟩] [0, 1, 7, 2, 3, 4, 5] mixed hn hG h (by kernel_rfl) ?_ ?_
    · exact ⟨⟨rfl, fun β => (GOk.plain (op_move (opt 0 rfl)) rfl)⟩, ⟨rfl, fun β => (GOk.plain (op_bin (bin_pnil Tryd.underlying30) (lp_ptr (opt 0 rfl)) (opc (ec _))) rfl)⟩, trivial⟩
    clear h
    intro β a w h
    change SatL c [.slot 0 (eqVP p_0), .slot 1 (lpVP p_1 0), .slot 8 (boolVP false), .res (Log_e p_0 L_0), .res (lb p_1 71 [one (eqVP h_1_0), one (eqVP h_1_1)]), .res (mapR h_1_0 arrK (fun l => l.length = 32) (fun u y => RP.val (strVP y) u) s_1.f_inputs), .res (mapR h_1_1 strK (fun l => l.length ≤ mxl) (fun u y => RP.val (boolVP y) u) s_1.f_others)] a w at h
    clear β
    show Code.wp Tryd.prog _ _ a w
    refine cond_L h 2 rfl (fun hb2 => ?_) (fun hb2 => ?_)
    · cases hb2
    · skip
      replace h := h.sub [0, 1, 3, 4, 5, 6] (by rfl)
      change SatL c [.slot 0 (eqVP p_0), .slot 1 (lpVP p_1 0), .res (Log_e p_0 L_0), .res (lb p_1 71 [one (eqVP h_1_0), one (eqVP h_1_1)]), .res (mapR h_1_0 arrK (fun l => l.length = 32) (fun u y => RP.val (strVP y) u) s_1.f_inputs), .res (mapR h_1_1 strK (fun l => l.length ≤ mxl) (fun u y => RP.val (boolVP y) u) s_1.f_others)] a w at h
      refine wp_skip ?_
      show Code.wp Tryd.prog _ _ a w
      refine wp_seq ?_
      refine wp_seq ?_
      refine region_do (n := 38) [.slot 9 100000 100000 (fun _ _ => (lpVP p_1 0)),
      .slot 10 100000 100000 (fun _ _ => (lpVP p_1 0)),
      .slot 11 100000 100000 (fun _ _ => (lpVP p_1 0)),
      .slot 12 100000 100000 (fun _ _ => (eqVP h_1_0)),
      .slot 13 4 100000 (fun v1_ _ => (eqVP v1_)),
      .res 4 100000 (fun v1_ _ => (mapI v1_ h_1_0 arrK (fun l => l.length = 32) (fun u y => RP.val (strVP y) u) s_1.f_inputs []))] [0, 1, 2, 3, 4, 4] [⟨[1], [], [6], [], some 9⟩, ⟨[6], [], [7], [0], some 10⟩, ⟨[7], [], [8], [0, 1], some 11⟩, ⟨[8, 3], [], [9], [0, 1, 2], some 12⟩, ⟨[9], [4], [10, 11], [0, 1, 2, 3], some 13⟩] [0, 1, 10, 2, 3, 5, 11] mixed hn hG h (by kernel_rfl) ?_ ?_
      · exact ⟨⟨rfl, fun β => (GOk.plain (op_move (opt 0 rfl)) rfl)⟩, ⟨rfl, fun β => (GOk.plain (op_nilCheck (opt 0 rfl) (ptr_lp _ _)) rfl)⟩, ⟨rfl, fun β => (GOk.plain (op_fieldAddr_lbm (p := p_1) (n := 1) 0 0 Tryd.underlying71 rfl Tryd.sizeOf68 (by decide) (opt 0 rfl) rfl) rfl)⟩, ⟨rfl, fun β => (GOk.plain (op_load_lb1 [] [one (eqVP h_1_1)] 1 Tryd.isAgg68 (opt 0 rfl) rfl rfl) rfl)⟩, ⟨rfl, fun β => (GOk.plain (op_range Tryd.underlying68 (opt 0 rfl)) rfl)⟩, trivial⟩
      clear h
      intro β a w h
      change SatL c [.slot 0 (eqVP p_0), .slot 1 (lpVP p_1 0), .slot 13 (eqVP (β 4)), .res (Log_e p_0 L_0), .res (lb p_1 71 [one (eqVP h_1_0), one (eqVP h_1_1)]), .res (mapR h_1_1 strK (fun l => l.length ≤ mxl) (fun u y => RP.val (boolVP y) u) s_1.f_others), .res (mapI (β 4) h_1_0 arrK (fun l => l.length = 32) (fun u y => RP.val (strVP y) u) s_1.f_inputs [])] a w at h
      generalize β 4 = p3 at h
      clear β
      show Code.wp Tryd.prog _ _ a w
      refine wp_block ?_
      refine wp_mono (wp_loopR (fun (s : List ((List UInt8) × (List UInt8)) × Option O_Log) a w => foldO (fun L x => digest_Log_note L x.1 x.2) s.1 L_0 = some s.2 ∧ (∃ rem, (s.1 ++ rem).Perm s_1.f_inputs) ∧ SatL c [.slot 0 (eqVP p_0), .slot 1 (lpVP p_1 0), .slot 13 (eqVP p3), .res (Log_e p_0 s.2), .res (lb p_1 71 [one (eqVP h_1_0), one (eqVP h_1_1)]), .res (mapR h_1_1 strK (fun l => l.length ≤ mxl) (fun u y => RP.val (boolVP y) u) s_1.f_others), .res (mapI p3 h_1_0 arrK (fun l => l.length = 32) (fun u y => RP.val (strVP y) u) s_1.f_inputs s.1)] a w) (fun e a w => e = .exit 0 ∧ ∃ (d : List ((List UInt8) × (List UInt8))) (l : Option O_Log), d.Perm s_1.f_inputs ∧ foldO (fun L x => digest_Log_note L x.1 x.2) d L_0 = some l ∧ SatL c [.slot 0 (eqVP p_0), .slot 1 (lpVP p_1 0), .slot 13 (eqVP p3), .res (Log_e p_0 l), .res (lb p_1 71 [one (eqVP h_1_0), one (eqVP h_1_1)]), .res (mapR h_1_1 strK (fun l => l.length ≤ mxl) (fun u y => RP.val (boolVP y) u) s_1.f_others), .res (mapI p3 h_1_0 arrK (fun l => l.length = 32) (fun u y => RP.val (strVP y) u) s_1.f_inputs d)] a w) (fun s => s_1.f_inputs.length - s.1.length) ?_ ([], L_0) _ _ ⟨rfl, ⟨s_1.f_inputs, by simp⟩, h.sub [0, 1, 2, 3, 4, 5, 6] (by rfl)⟩) ?_
      · clear h
        rintro ⟨dn, lg⟩ a w ⟨hfo, ⟨rem, hrem⟩, h⟩
        change foldO (fun L x => digest_Log_note L x.1 x.2) dn L_0 = some lg at hfo
        change SatL c [.slot 0 (eqVP p_0), .slot 1 (lpVP p_1 0), .slot 13 (eqVP p3), .res (Log_e p_0 lg), .res (lb p_1 71 [one (eqVP h_1_0), one (eqVP h_1_1)]), .res (mapR h_1_1 strK (fun l => l.length ≤ mxl) (fun u y => RP.val (boolVP y) u) s_1.f_others), .res (mapI p3 h_1_0 arrK (fun l => l.length = 32) (fun u y => RP.val (strVP y) u) s_1.f_inputs dn)] a w at h
        refine wp_seq ?_
        refine region_do (n := 38) [.slot 14 100000 100000 (fun _ _ => (nxtVP (decide (dn.length < s_1.f_inputs.length)))),
      .res 100000 100000 (fun _ _ => (mapN p3 h_1_0 arrK (fun l => l.length = 32) (fun u y => RP.val (strVP y) u) s_1.f_inputs dn (decide (dn.length < s_1.f_inputs.length)))),
      .slot 15 100000 100000 (fun _ _ => (boolVP (decide (dn.length < s_1.f_inputs.length))))] [0, 0, 1] [⟨[2], [6], [7, 8], [], some 14⟩, ⟨[7], [], [9], [0], some 15⟩] [0, 1, 2, 9, 3, 4, 5, 8] mixed hn hG h (by kernel_rfl) ?_ ?_
        · exact ⟨⟨rfl, fun β => (GOk.plain (op_next 0 rfl) rfl)⟩, ⟨rfl, fun β => (GOk.plain (op_extract0 (opt 0 rfl)) rfl)⟩, trivial⟩
        clear h
        intro β a w h
        change SatL c [.slot 0 (eqVP p_0), .slot 1 (lpVP p_1 0), .slot 13 (eqVP p3), .slot 15 (boolVP (decide (dn.length < s_1.f_inputs.length))), .res (Log_e p_0 lg), .res (lb p_1 71 [one (eqVP h_1_0), one (eqVP h_1_1)]), .res (mapR h_1_1 strK (fun l => l.length ≤ mxl) (fun u y => RP.val (boolVP y) u) s_1.f_others), .res (mapN p3 h_1_0 arrK (fun l => l.length = 32) (fun u y => RP.val (strVP y) u) s_1.f_inputs dn (decide (dn.length < s_1.f_inputs.length)))] a w at h
        clear β
        show Code.wp Tryd.prog _ _ a w
        refine wp_seq ?_
        obtain ⟨dd, h⟩ := h.ex 7 rfl
        replace h := h.sep 7 rfl
        have hd := h.isp 7 rfl (fun _ _ _ q => q.2)
        replace h := h.sub [0, 1, 2, 3, 4, 5, 6, 8] (by rfl)
        change SatL c [.slot 0 (eqVP p_0), .slot 1 (lpVP p_1 0), .slot 13 (eqVP p3), .slot 15 (boolVP (decide (dn.length < s_1.f_inputs.length))), .res (Log_e p_0 lg), .res (lb p_1 71 [one (eqVP h_1_0), one (eqVP h_1_1)]), .res (mapR h_1_1 strK (fun l => l.length ≤ mxl) (fun u y => RP.val (boolVP y) u) s_1.f_others), .res (mapI p3 h_1_0 arrK (fun l => l.length = 32) (fun u y => RP.val (strVP y) u) s_1.f_inputs dd)] a w at h
        refine cond_L h 3 rfl (fun hb => ?_) (fun hb => ?_)
        · rcases hd with ⟨_, x, rm2, rfl, hp⟩ | ⟨hd1, _⟩
          · obtain ⟨lg2, hlg, hfo2⟩ := foldO_step hfo (hall1 _ hp)
            have hF : (digest_Log_note lg x.1 x.2).bind (fun r => some r) = some lg2 := by rw [show digest_Log_note lg x.1 x.2 = some lg2 from hlg]; rfl
            change SatL c [.slot 0 (eqVP p_0), .slot 1 (lpVP p_1 0), .slot 13 (eqVP p3), .slot 15 (boolVP (decide (dn.length < s_1.f_inputs.length))), .res (Log_e p_0 lg), .res (lb p_1 71 [one (eqVP h_1_0), one (eqVP h_1_1)]), .res (mapR h_1_1 strK (fun l => l.length ≤ mxl) (fun u y => RP.val (boolVP y) u) s_1.f_others), .res (mapI p3 h_1_0 arrK (fun l => l.length = 32) (fun u y => RP.val (strVP y) u) s_1.f_inputs (dn ++ [x]))] a w at h
            replace h := h.sub [0, 1, 2, 4, 5, 6, 7] (by rfl)
            change SatL c [.slot 0 (eqVP p_0), .slot 1 (lpVP p_1 0), .slot 13 (eqVP p3), .res (Log_e p_0 lg), .res (lb p_1 71 [one (eqVP h_1_0), one (eqVP h_1_1)]), .res (mapR h_1_1 strK (fun l => l.length ≤ mxl) (fun u y => RP.val (boolVP y) u) s_1.f_others), .res (mapI p3 h_1_0 arrK (fun l => l.length = 32) (fun u y => RP.val (strVP y) u) s_1.f_inputs (dn ++ [x]))] a w at h
            refine wp_skip ?_
            show Code.wp Tryd.prog _ _ a w
            refine wp_block ?_
            refine wp_seq ?_
            refine region_do (n := 38) [.slot 16 100000 100000 (fun _ _ => (tupVP [(aggVP [bytesCk 32 x.1]), (strVP x.2)])),
      .slot 17 100000 100000 (fun _ _ => (aggVP [bytesCk 32 x.1])),
      .slot 18 100000 100000 (fun _ _ => (strVP x.2)),
      .slot 4 3 100000 (fun v1_ _ => (lpVP v1_ 0)),
      .res 3 100000 (fun v1_ _ => (lb (v1_) 24 [bytesCk 32 (List.replicate 32 0)])),
      .res 3 100000 (fun v1_ _ => (lb (v1_) 24 [bytesCk 32 x.1])),
      .slot 5 100000 100000 (fun _ _ => (strVP x.2))] [0, 1, 2, 3, 3, 4, 5] [⟨[2, 6], [], [7], [], some 16⟩, ⟨[7], [], [8], [0], some 17⟩, ⟨[7], [], [9], [0, 1], some 18⟩, ⟨[], [], [10, 11], [0, 1, 2], some 4⟩, ⟨[10, 8], [11], [12], [0, 1, 2, 3], none⟩, ⟨[9], [], [13], [0, 1, 2, 3, 4], some 5⟩] [0, 1, 10, 13, 2, 3, 4, 5, 6, 12] mixed hn hG h (by kernel_rfl) ?_ ?_
            · exact ⟨⟨rfl, fun β => (GOk.plain (op_entry (x := x) 0 1 strVP (aggVP [bytesCk 32 x.1]) rfl rfl (fun _ h => ⟨x.1.map byteC, rfl, ⟨x.1.map byteC, [], by simp, ⟨h, rfl⟩, rfl⟩⟩)) rfl)⟩, ⟨rfl, fun β => (GOk.plain (op_extract (opt 0 rfl) rfl) rfl)⟩, ⟨rfl, fun β => (GOk.plain (op_extract (opt 0 rfl) rfl) rfl)⟩, ⟨rfl, fun β => (GOk.plain (op_alloc Tryd.zeroValue24 z24) rfl)⟩, ⟨rfl, fun β => (GOk.plain (op_store_lb [] [bytesCk 32 (List.replicate 32 0)] [] [bytesCk 32 x.1] Tryd.sizeOf24 (opt 0 rfl) (opt 1 rfl) (cells_agg _) rfl rfl rfl) rfl)⟩, ⟨rfl, fun β => (GOk.plain (op_assign (opt 0 rfl)) rfl)⟩, trivial⟩
            clear h
            intro β a w h
            change SatL c [.slot 0 (eqVP p_0), .slot 1 (lpVP p_1 0), .slot 4 (lpVP (β 3) 0), .slot 5 (strVP x.2), .slot 13 (eqVP p3), .res (Log_e p_0 lg), .res (lb p_1 71 [one (eqVP h_1_0), one (eqVP h_1_1)]), .res (mapR h_1_1 strK (fun l => l.length ≤ mxl) (fun u y => RP.val (boolVP y) u) s_1.f_others), .res (mapI p3 h_1_0 arrK (fun l => l.length = 32) (fun u y => RP.val (strVP y) u) s_1.f_inputs (dn ++ [x])), .res (lb (β 3) 24 [bytesCk 32 x.1])] a w at h
            generalize β 3 = p4 at h
            clear β
            show Code.wp Tryd.prog _ _ a w
            obtain ⟨r5, hr5, hF⟩ := bind_some hF
            refine region_do (n := 38) [.slot 19 100000 100000 (fun _ _ => (eqVP p_0)),
      .slot 20 100000 100000 (fun _ _ => (aggVP [bytesCk 32 x.1])),
      .slot 21 100000 100000 (fun _ _ => (strVP x.2)),
      .slot 22 100000 100000 (fun _ _ => (tupVP [])),
      .res 100000 100000 (fun _ _ => (Log_e p_0 r5))] [0, 1, 2, 3, 3] [⟨[0], [], [10], [], some 19⟩, ⟨[2, 9], [], [11], [0], some 20⟩, ⟨[3], [], [12], [0, 1], some 21⟩, ⟨[10, 11, 12], [5], [13, 14], [0, 1, 2], some 22⟩] [0, 1, 4, 6, 7, 8, 14] mixed hn hG h (by kernel_rfl) ?_ ?_
            · exact ⟨⟨rfl, fun β => (GOk.plain (op_move (opt 0 rfl)) rfl)⟩, ⟨rfl, fun β => (GOk.plain (op_load_lb [] [bytesCk 32 x.1] [] 1 Tryd.isAgg24 Tryd.sizeOf24 (opt 0 rfl) rfl rfl rfl) rfl)⟩, ⟨rfl, fun β => (GOk.plain (op_move (opt 0 rfl)) rfl)⟩, ⟨rfl, fun β => (GOk.plain (op_call Tryd.call40 (digest_Log_note_ok hr5) ⟨(opt 0 rfl), (opt 1 rfl), (opt 2 rfl), trivial⟩) rfl)⟩, trivial⟩
            clear h
            intro β a w h
            change SatL c [.slot 0 (eqVP p_0), .slot 1 (lpVP p_1 0), .slot 13 (eqVP p3), .res (lb p_1 71 [one (eqVP h_1_0), one (eqVP h_1_1)]), .res (mapR h_1_1 strK (fun l => l.length ≤ mxl) (fun u y => RP.val (boolVP y) u) s_1.f_others), .res (mapI p3 h_1_0 arrK (fun l => l.length = 32) (fun u y => RP.val (strVP y) u) s_1.f_inputs (dn ++ [x])), .res (Log_e p_0 r5)] a w at h
            clear β
            obtain rfl := Option.some.inj hF
            exact Or.inl ⟨rfl, (dn ++ [x], _), ⟨hfo2, ⟨rm2, by simpa using hp⟩, h.sub [0, 1, 2, 6, 3, 4, 5] (by rfl)⟩, by have := hp.length_eq; simp at this ⊢; omega⟩
          · rw [hb] at hd1; cases hd1
        · rcases hd with ⟨hd1, _⟩ | ⟨_, rfl, hp⟩
          · rw [hb] at hd1; cases hd1
          · refine wp_exit ?_
            exact Or.inr ⟨exit_ne _, rfl, _, lg, hp, hfo, h.sub [0, 1, 2, 4, 5, 6, 7] (by rfl)⟩
      · rintro e a w ⟨rfl, d1, l1, hp1, hfo1, h⟩
        change SatL c [.slot 0 (eqVP p_0), .slot 1 (lpVP p_1 0), .slot 13 (eqVP p3), .res (Log_e p_0 l1), .res (lb p_1 71 [one (eqVP h_1_0), one (eqVP h_1_1)]), .res (mapR h_1_1 strK (fun l => l.length ≤ mxl) (fun u y => RP.val (boolVP y) u) s_1.f_others), .res (mapI p3 h_1_0 arrK (fun l => l.length = 32) (fun u y => RP.val (strVP y) u) s_1.f_inputs d1)] a w at h
        refine inBlock_at ?_
        replace h := h.conv 6 rfl unrange
        replace h := h.sep 6 rfl
        replace h := h.sub [0, 1, 3, 4, 5, 7] (by rfl)
        change SatL c [.slot 0 (eqVP p_0), .slot 1 (lpVP p_1 0), .res (Log_e p_0 l1), .res (lb p_1 71 [one (eqVP h_1_0), one (eqVP h_1_1)]), .res (mapR h_1_1 strK (fun l => l.length ≤ mxl) (fun u y => RP.val (boolVP y) u) s_1.f_others), .res (mapR h_1_0 arrK (fun l => l.length = 32) (fun u y => RP.val (strVP y) u) s_1.f_inputs)] a w at h
        have hall2 := hall2 d1 hp1 l1 hfo1
        show Code.wp Tryd.prog _ _ a w
        refine wp_seq ?_
        refine region_do (n := 38) [.slot 23 100000 100000 (fun _ _ => (lpVP p_1 0)),
      .slot 24 100000 100000 (fun _ _ => (lpVP p_1 0)),
      .slot 25 100000 100000 (fun _ _ => (lpVP p_1 1)),
      .slot 26 100000 100000 (fun _ _ => (eqVP h_1_1)),
      .slot 27 4 100000 (fun v1_ _ => (eqVP v1_)),
      .res 4 100000 (fun v1_ _ => (mapI v1_ h_1_1 strK (fun l => l.length ≤ mxl) (fun u y => RP.val (boolVP y) u) s_1.f_others []))] [0, 1, 2, 3, 4, 4] [⟨[1], [], [6], [], some 23⟩, ⟨[6], [], [7], [0], some 24⟩, ⟨[7], [], [8], [0, 1], some 25⟩, ⟨[8, 3], [], [9], [0, 1, 2], some 26⟩, ⟨[9], [4], [10, 11], [0, 1, 2, 3], some 27⟩] [0, 10, 2, 3, 5, 11] mixed hn hG h (by kernel_rfl) ?_ ?_
        · exact ⟨⟨rfl, fun β => (GOk.plain (op_move (opt 0 rfl)) rfl)⟩, ⟨rfl, fun β => (GOk.plain (op_nilCheck (opt 0 rfl) (ptr_lp _ _)) rfl)⟩, ⟨rfl, fun β => (GOk.plain (op_fieldAddr_lbm (p := p_1) (n := 1) 0 1 Tryd.underlying71 rfl Tryd.sizeOf69 (by decide) (opt 0 rfl) rfl) rfl)⟩, ⟨rfl, fun β => (GOk.plain (op_load_lb1 [one (eqVP h_1_0)] [] 1 Tryd.isAgg69 (opt 0 rfl) rfl rfl) rfl)⟩, ⟨rfl, fun β => (GOk.plain (op_range Tryd.underlying69 (opt 0 rfl)) rfl)⟩, trivial⟩
        clear h
        intro β a w h
        change SatL c [.slot 0 (eqVP p_0), .slot 27 (eqVP (β 4)), .res (Log_e p_0 l1), .res (lb p_1 71 [one (eqVP h_1_0), one (eqVP h_1_1)]), .res (mapR h_1_0 arrK (fun l => l.length = 32) (fun u y => RP.val (strVP y) u) s_1.f_inputs), .res (mapI (β 4) h_1_1 strK (fun l => l.length ≤ mxl) (fun u y => RP.val (boolVP y) u) s_1.f_others [])] a w at h
        generalize β 4 = p6 at h
        clear β
        show Code.wp Tryd.prog _ _ a w
        refine wp_block ?_
        refine wp_mono (wp_loopR (fun (s : List ((List UInt8) × Bool) × Option O_Log) a w => foldO (fun L x => (sha_Sum [x.1]).bind fun g => digest_Log_note L g x.1) s.1 l1 = some s.2 ∧ (∃ rem, (s.1 ++ rem).Perm s_1.f_others) ∧ SatL c [.slot 0 (eqVP p_0), .slot 27 (eqVP p6), .res (Log_e p_0 s.2), .res (lb p_1 71 [one (eqVP h_1_0), one (eqVP h_1_1)]), .res (mapR h_1_0 arrK (fun l => l.length = 32) (fun u y => RP.val (strVP y) u) s_1.f_inputs), .res (mapI p6 h_1_1 strK (fun l => l.length ≤ mxl) (fun u y => RP.val (boolVP y) u) s_1.f_others s.1)] a w) (fun e a w => e = .exit 2 ∧ ∃ (d : List ((List UInt8) × Bool)) (l : Option O_Log), d.Perm s_1.f_others ∧ foldO (fun L x => (sha_Sum [x.1]).bind fun g => digest_Log_note L g x.1) d l1 = some l ∧ SatL c [.slot 27 (eqVP p6), .res (Log_e p_0 l), .res (lb p_1 71 [one (eqVP h_1_0), one (eqVP h_1_1)]), .res (mapR h_1_0 arrK (fun l => l.length = 32) (fun u y => RP.val (strVP y) u) s_1.f_inputs), .res (mapI p6 h_1_1 strK (fun l => l.length ≤ mxl) (fun u y => RP.val (boolVP y) u) s_1.f_others d)] a w) (fun s => s_1.f_others.length - s.1.length) ?_ ([], l1) _ _ ⟨rfl, ⟨s_1.f_others, by simp⟩, h.sub [0, 1, 2, 3, 4, 5] (by rfl)⟩) ?_
        · clear h
          rintro ⟨dn, lg⟩ a w ⟨hfo, ⟨rem, hrem⟩, h⟩
          change foldO (fun L x => (sha_Sum [x.1]).bind fun g => digest_Log_note L g x.1) dn l1 = some lg at hfo
          change SatL c [.slot 0 (eqVP p_0), .slot 27 (eqVP p6), .res (Log_e p_0 lg), .res (lb p_1 71 [one (eqVP h_1_0), one (eqVP h_1_1)]), .res (mapR h_1_0 arrK (fun l => l.length = 32) (fun u y => RP.val (strVP y) u) s_1.f_inputs), .res (mapI p6 h_1_1 strK (fun l => l.length ≤ mxl) (fun u y => RP.val (boolVP y) u) s_1.f_others dn)] a w at h
          refine wp_seq ?_
          refine region_do (n := 38) [.slot 28 100000 100000 (fun _ _ => (nxtVP (decide (dn.length < s_1.f_others.length)))),
      .res 100000 100000 (fun _ _ => (mapN p6 h_1_1 strK (fun l => l.length ≤ mxl) (fun u y => RP.val (boolVP y) u) s_1.f_others dn (decide (dn.length < s_1.f_others.length)))),
      .slot 29 100000 100000 (fun _ _ => (boolVP (decide (dn.length < s_1.f_others.length))))] [0, 0, 1] [⟨[1], [5], [6, 7], [], some 28⟩, ⟨[6], [], [8], [0], some 29⟩] [0, 1, 8, 2, 3, 4, 7] mixed hn hG h (by kernel_rfl) ?_ ?_
          · exact ⟨⟨rfl, fun β => (GOk.plain (op_next 0 rfl) rfl)⟩, ⟨rfl, fun β => (GOk.plain (op_extract0 (opt 0 rfl)) rfl)⟩, trivial⟩
          clear h
          intro β a w h
          change SatL c [.slot 0 (eqVP p_0), .slot 27 (eqVP p6), .slot 29 (boolVP (decide (dn.length < s_1.f_others.length))), .res (Log_e p_0 lg), .res (lb p_1 71 [one (eqVP h_1_0), one (eqVP h_1_1)]), .res (mapR h_1_0 arrK (fun l => l.length = 32) (fun u y => RP.val (strVP y) u) s_1.f_inputs), .res (mapN p6 h_1_1 strK (fun l => l.length ≤ mxl) (fun u y => RP.val (boolVP y) u) s_1.f_others dn (decide (dn.length < s_1.f_others.length)))] a w at h
          clear β
          show Code.wp Tryd.prog _ _ a w
          refine wp_seq ?_
          obtain ⟨dd, h⟩ := h.ex 6 rfl
          replace h := h.sep 6 rfl
          have hd := h.isp 6 rfl (fun _ _ _ q => q.2)
          replace h := h.sub [0, 1, 2, 3, 4, 5, 7] (by rfl)
          change SatL c [.slot 0 (eqVP p_0), .slot 27 (eqVP p6), .slot 29 (boolVP (decide (dn.length < s_1.f_others.length))), .res (Log_e p_0 lg), .res (lb p_1 71 [one (eqVP h_1_0), one (eqVP h_1_1)]), .res (mapR h_1_0 arrK (fun l => l.length = 32) (fun u y => RP.val (strVP y) u) s_1.f_inputs), .res (mapI p6 h_1_1 strK (fun l => l.length ≤ mxl) (fun u y => RP.val (boolVP y) u) s_1.f_others dd)] a w at h
          refine cond_L h 2 rfl (fun hb => ?_) (fun hb => ?_)
          · rcases hd with ⟨_, x, rm2, rfl, hp⟩ | ⟨hd1, _⟩
            · obtain ⟨lg2, hlg, hfo2⟩ := foldO_step hfo (hall2 _ hp)
              have hF : (sha_Sum [x.1]).bind (fun g => (digest_Log_note lg g x.1).bind fun r => some r) = some lg2 := by
                have hlg : (sha_Sum [x.1]).bind (fun g => digest_Log_note lg g x.1) = some lg2 := hlg
                rw [← hlg]
                cases sha_Sum [x.1] with
                | none => rfl
                | some g =>
                  show (digest_Log_note lg g x.1).bind _ = digest_Log_note lg g x.1
                  cases digest_Log_note lg g x.1 <;> rfl
              change SatL c [.slot 0 (eqVP p_0), .slot 27 (eqVP p6), .slot 29 (boolVP (decide (dn.length < s_1.f_others.length))), .res (Log_e p_0 lg), .res (lb p_1 71 [one (eqVP h_1_0), one (eqVP h_1_1)]), .res (mapR h_1_0 arrK (fun l => l.length = 32) (fun u y => RP.val (strVP y) u) s_1.f_inputs), .res (mapI p6 h_1_1 strK (fun l => l.length ≤ mxl) (fun u y => RP.val (boolVP y) u) s_1.f_others (dn ++ [x]))] a w at h
              replace h := h.sub [0, 1, 3, 4, 5, 6] (by rfl)
              change SatL c [.slot 0 (eqVP p_0), .slot 27 (eqVP p6), .res (Log_e p_0 lg), .res (lb p_1 71 [one (eqVP h_1_0), one (eqVP h_1_1)]), .res (mapR h_1_0 arrK (fun l => l.length = 32) (fun u y => RP.val (strVP y) u) s_1.f_inputs), .res (mapI p6 h_1_1 strK (fun l => l.length ≤ mxl) (fun u y => RP.val (boolVP y) u) s_1.f_others (dn ++ [x]))] a w at h
              refine wp_skip ?_
              show Code.wp Tryd.prog _ _ a w
              refine wp_block ?_
              refine wp_seq ?_
              refine region_do (n := 38) [.slot 30 100000 100000 (fun _ _ => (tupVP [(strVP x.1), (boolVP x.2)])),
      .slot 31 100000 100000 (fun _ _ => (strVP x.1)),
      .slot 6 100000 100000 (fun _ _ => (strVP x.1))] [0, 1, 2] [⟨[1, 5], [], [6], [], some 30⟩, ⟨[6], [], [7], [0], some 31⟩, ⟨[7], [], [8], [0, 1], some 6⟩] [0, 8, 1, 2, 3, 4, 5] mixed hn hG h (by kernel_rfl) ?_ ?_
              · exact ⟨⟨rfl, fun β => (GOk.plain (op_entry (x := x) 0 1 boolVP (strVP x.1) rfl rfl (fun _ h => ⟨rfl, h⟩)) rfl)⟩, ⟨rfl, fun β => (GOk.plain (op_extract (opt 0 rfl) rfl) rfl)⟩, ⟨rfl, fun β => (GOk.plain (op_assign (opt 0 rfl)) rfl)⟩, trivial⟩
              clear h
              intro β a w h
              change SatL c [.slot 0 (eqVP p_0), .slot 6 (strVP x.1), .slot 27 (eqVP p6), .res (Log_e p_0 lg), .res (lb p_1 71 [one (eqVP h_1_0), one (eqVP h_1_1)]), .res (mapR h_1_0 arrK (fun l => l.length = 32) (fun u y => RP.val (strVP y) u) s_1.f_inputs), .res (mapI p6 h_1_1 strK (fun l => l.length ≤ mxl) (fun u y => RP.val (boolVP y) u) s_1.f_others (dn ++ [x]))] a w at h
              clear β
              show Code.wp Tryd.prog _ _ a w
              obtain ⟨r7, hr7, hF⟩ := bind_some hF
              obtain ⟨r8, hr8, hF⟩ := bind_some hF
              refine region_do (n := 38) [.slot 32 100000 100000 (fun _ _ => (eqVP p_0)),
      .slot 33 100000 100000 (fun _ _ => (strVP x.1)),
      .slot 34 100000 100000 (fun _ _ => (slVP strC [x.1])),
      .slot 35 100000 100000 (fun _ _ => (aggVP [bytesCk 32 r7])),
      .slot 36 100000 100000 (fun _ _ => (strVP x.1)),
      .slot 37 100000 100000 (fun _ _ => (tupVP [])),
      .res 100000 100000 (fun _ _ => (Log_e p_0 r8))] [0, 1, 2, 3, 4, 5, 5] [⟨[0], [], [7], [], some 32⟩, ⟨[1], [], [8], [0], some 33⟩, ⟨[8], [], [9], [0, 1], some 34⟩, ⟨[9], [], [10], [0, 1, 2], some 35⟩, ⟨[1], [], [11], [0, 1, 2, 3], some 36⟩, ⟨[7, 10, 11], [3], [12, 13], [0, 1, 2, 3, 4], some 37⟩] [0, 2, 4, 5, 6, 13] mixed hn hG h (by kernel_rfl) ?_ ?_
              · exact ⟨⟨rfl, fun β => (GOk.plain (op_move (opt 0 rfl)) rfl)⟩, ⟨rfl, fun β => (GOk.plain (op_move (opt 0 rfl)) rfl)⟩, ⟨rfl, fun β => (GOk.plain (op_lit (xs := [.tmp 33]) (ys := [x.1]) _ rfl Tryd.underlying22 Tryd.sizeOf9 Tryd.zeroValue9 rfl rfl (by decide) (by decide) ⟨⟨_, (opt 0 rfl), (cells_one (one_str _))⟩, trivial⟩ lens_strC) rfl)⟩, ⟨rfl, fun β => (GOk.plain (op_call Tryd.call38 (sha_Sum_ok hr7) ⟨(opt 0 rfl), trivial⟩) rfl)⟩, ⟨rfl, fun β => (GOk.plain (op_move (opt 0 rfl)) rfl)⟩, ⟨rfl, fun β => (GOk.plain (op_call Tryd.call40 (digest_Log_note_ok hr8) ⟨(opt 0 rfl), (opt 1 rfl), (opt 2 rfl), trivial⟩) rfl)⟩, trivial⟩
              clear h
              intro β a w h
              change SatL c [.slot 0 (eqVP p_0), .slot 27 (eqVP p6), .res (lb p_1 71 [one (eqVP h_1_0), one (eqVP h_1_1)]), .res (mapR h_1_0 arrK (fun l => l.length = 32) (fun u y => RP.val (strVP y) u) s_1.f_inputs), .res (mapI p6 h_1_1 strK (fun l => l.length ≤ mxl) (fun u y => RP.val (boolVP y) u) s_1.f_others (dn ++ [x])), .res (Log_e p_0 r8)] a w at h
              clear β
              obtain rfl := Option.some.inj hF
              exact Or.inl ⟨rfl, (dn ++ [x], _), ⟨hfo2, ⟨rm2, by simpa using hp⟩, h.sub [0, 1, 5, 2, 3, 4] (by rfl)⟩, by have := hp.length_eq; simp at this ⊢; omega⟩
            · rw [hb] at hd1; cases hd1
          · rcases hd with ⟨hd1, _⟩ | ⟨_, rfl, hp⟩
            · rw [hb] at hd1; cases hd1
            · refine wp_exit ?_
              exact Or.inr ⟨exit_ne _, rfl, _, lg, hp, hfo, h.sub [1, 3, 4, 5, 6] (by rfl)⟩
        · rintro e a w ⟨rfl, d2, l2, hp2, hfo2, h⟩
          change SatL c [.slot 27 (eqVP p6), .res (Log_e p_0 l2), .res (lb p_1 71 [one (eqVP h_1_0), one (eqVP h_1_1)]), .res (mapR h_1_0 arrK (fun l => l.length = 32) (fun u y => RP.val (strVP y) u) s_1.f_inputs), .res (mapI p6 h_1_1 strK (fun l => l.length ≤ mxl) (fun u y => RP.val (boolVP y) u) s_1.f_others d2)] a w at h
          refine inBlock_at ?_
          replace h := h.conv 4 rfl unrange
          replace h := h.sep 4 rfl
          replace h := h.sub [1, 2, 3, 5] (by rfl)
          change SatL c [.res (Log_e p_0 l2), .res (lb p_1 71 [one (eqVP h_1_0), one (eqVP h_1_1)]), .res (mapR h_1_0 arrK (fun l => l.length = 32) (fun u y => RP.val (strVP y) u) s_1.f_inputs), .res (mapR h_1_1 strK (fun l => l.length ≤ mxl) (fun u y => RP.val (boolVP y) u) s_1.f_others)] a w at h
          replace h := h.unsep 2 3 rfl rfl (by decide)
          replace h := h.unsep 1 2 rfl rfl (by decide)
          replace h := h.conv 1 rfl (R' := Log_e p_1 (some s_1)) (Log_packo (v0 := h_1_0) (v1 := h_1_1) (o := (some s_1)))
          replace h := h.sub [0, 1] (by rfl)
          change SatL c [.res (Log_e p_0 l2), .res (Log_e p_1 (some s_1))] a w at h
          have hK := hKall d1 hp1 l1 hfo1 d2 hp2 l2 hfo2
          replace h := h.conv 0 rfl (R' := RP.ex fun l => RP.sep (RP.is (K l)) (Log_e p_0 l)) (fun _ _ _ q => ⟨l2, [], _, rfl, ⟨rfl, hK⟩, q⟩)
          exact ⟨.inr rfl, retn h (rs := []) (Vs := []) Tryd.results23 (by decide) trivial [0, 1] [RP.ex fun l => RP.sep (RP.is (K l)) (Log_e p_0 l), (Log_e p_1 (some s_1))] rfl rfl rfl⟩

def law04_DigestJoins.b1 (a_0 : List (S_law04_Ask)) (x19 : Int) (x20 : Option O_Log) (x21 : Option O_RLog) : Option (Flow Bool (Int × (Option O_Log) × (Option O_RLog))) := (if (decide (x19 < (a_0.length : Int))) = true then (if (0 : Int) ≤ x19 ∧ x19 < a_0.length then ((digest_Log_Of x20 ((a_0.getD x19.toNat default).f_Domain) ((a_0.getD x19.toNat default).f_Parts)).bind fun r33 => ((ref04_Log_Of x21 ((a_0.getD x19.toNat default).f_Domain) ((a_0.getD x19.toNat default).f_Parts)).bind fun r34 => some (.cont (IntKind.wrap .i64 (x19 + 1), r33.2, r34.2)))) else none) else some (.brk (x19, x20, x21)))
def law04_DigestJoins.b2 (a_1 : List (S_law04_Ask)) (x47 : Int) (x48 : Option O_Log) (x49 : Option O_RLog) : Option (Flow Bool (Int × (Option O_Log) × (Option O_RLog))) := (if (decide (x47 < (a_1.length : Int))) = true then (if (0 : Int) ≤ x47 ∧ x47 < a_1.length then ((digest_Log_Of x48 ((a_1.getD x47.toNat default).f_Domain) ((a_1.getD x47.toNat default).f_Parts)).bind fun r61 => ((ref04_Log_Of x49 ((a_1.getD x47.toNat default).f_Domain) ((a_1.getD x47.toNat default).f_Parts)).bind fun r62 => some (.cont (IntKind.wrap .i64 (x47 + 1), r61.2, r62.2)))) else none) else some (.brk (x47, x48, x49)))
def law04_DigestJoins.j2 (x83 : Bool) : Option Bool := some x83
noncomputable def law04_DigestJoins.j1 (a_0 : List (S_law04_Ask)) (a_1 : List (S_law04_Ask)) (x5 : Bool) : Option Bool := (if x5 = true then ((law04_awake).bind fun r7 => some r7) else ((digest_New).bind fun r8 => ((digest_New).bind fun r9 => ((ref04_New).bind fun r10 => ((loopN (fun s : Int × (Option O_Log) × (Option O_RLog) => law04_DigestJoins.b1 a_0 s.1 s.2.1 s.2.2) (((a_0.length : Int) - 0 : Int).toNat + 2) (0, (some r8), (some r10))).bind fun cr => match cr with | .ret r => some r | .next (y39, y40, y41) => ((loopN (fun s : Int × (Option O_Log) × (Option O_RLog) => law04_DigestJoins.b2 a_1 s.1 s.2.1 s.2.2) (((a_1.length : Int) - 0 : Int).toNat + 2) (0, (some r9), y41)).bind fun cr => match cr with | .ret r => some r | .next (y67, y68, y69) => ((digest_Log_Count y68).bind fun r70 => (joinAll y40 y68 fun r71 => (joinAll r71 none fun r72 => (joinAll none y68 fun r73 => ((y69).bind fun s74 => ((law04_awake).bind fun r78 => (if r78 = true then ((digest_Log_Count r72).bind fun r79 => (if (decide (r79 = (s74.f_Inputs.length : Int))) = true then ((digest_Log_Clash r72).bind fun r80 => ((ref04_Log_Clash (some ⟨s74.f_Inputs, s74.f_Digests⟩)).bind fun r81 => (if (r80 == r81) = true then ((digest_Log_Count y68).bind fun r82 => law04_DigestJoins.j2 (decide (r82 = r70))) else law04_DigestJoins.j2 false))) else law04_DigestJoins.j2 false)) else law04_DigestJoins.j2 false)))))))))))))
noncomputable def law04_DigestJoins (a_0 : List (S_law04_Ask)) (a_1 : List (S_law04_Ask)) : Option Bool := ((law04_awake).bind fun r1 => (if (!r1) = true then some false else ((law04_light a_0).bind fun r3 => (if (!r3) = true then law04_DigestJoins.j1 a_0 a_1 true else ((law04_light a_1).bind fun r4 => law04_DigestJoins.j1 a_0 a_1 (!r4))))))
set_option maxHeartbeats 4000000 in
theorem law04_DigestJoins_ok {a_0 : List (S_law04_Ask)} {a_1 : List (S_law04_Ask)} {r : Bool} (hF : law04_DigestJoins a_0 a_1 = some r) : CallOk Tryd.prog KG 5 [(slVP S_law04_Ask.ck a_0), (slVP S_law04_Ask.ck a_1)] [] (fun _ => []) (boolVP r) := by
  refine CallOk.intro 100 Tryd.func5 rfl Tryd.ntmps5 (Nat.le_of_ble_eq_true rfl) ?_
  intro c a w hG hn h
  unfold law04_DigestJoins at hF
  change SatL c [.slot 0 (slVP S_law04_Ask.ck a_0), .slot 1 (slVP S_law04_Ask.ck a_1)] a w at h
  refine wp_seq ?_
  refine region_do (n := 100) [.slot 4 100000 100000 (fun _ _ => (boolVP false))] [0] [⟨[], [], [2], [], some 4⟩] [0, 1] mixed hn hG h (by kernel_rfl) ?_ ?_
  · exact ⟨⟨rfl, fun β => (GOk.plain (op_assign (opc (bc _))) rfl)⟩, trivial⟩
  clear h
  intro β a w h
  change SatL c [.slot 0 (slVP S_law04_Ask.ck a_0), .slot 1 (slVP S_law04_Ask.ck a_1)] a w at h
  clear β
  show Code.wp Tryd.prog _ _ a w
  refine wp_seq ?_
  refine wp_seq ?_
  obtain ⟨r1, hr1, hF⟩ := bind_some hF
  refine region_do (n := 100) [.slot 14 100000 100000 (fun _ _ => (boolVP r1)),
      .slot 15 100000 100000 (fun _ _ => (boolVP (!r1)))] [0, 1] [⟨[], [], [2], [], some 14⟩, ⟨[2], [], [3], [0], some 15⟩] [0, 1, 3] mixed hn hG h (by kernel_rfl) ?_ ?_
  · exact ⟨⟨rfl, fun β => (GOk.plain (op_call Tryd.call11 (law04_awake_ok hr1) trivial) rfl)⟩, ⟨rfl, fun β => (GOk.plain (op_un (un_not _) (opt 0 rfl)) rfl)⟩, trivial⟩
  clear h
  intro β a w h
  change SatL c [.slot 0 (slVP S_law04_Ask.ck a_0), .slot 1 (slVP S_law04_Ask.ck a_1), .slot 15 (boolVP (!r1))] a w at h
  clear β
  show Code.wp Tryd.prog _ _ a w
  refine cond_L h 2 rfl (fun hb2 => ?_) (fun hb2 => ?_)
  · replace hF := tt_of hb2 hF
    replace h := h.sub [] (by rfl)
    change SatL c [] a w at h
    refine wp_seq ?_
    refine region_do (n := 100) [.slot 4 100000 100000 (fun _ _ => (boolVP false))] [0] [⟨[], [], [0], [], some 4⟩] [0] mixed hn hG h (by kernel_rfl) ?_ ?_
    · exact ⟨⟨rfl, fun β => (GOk.plain (op_assign (opc (bc _))) rfl)⟩, trivial⟩
    clear h
    intro β a w h
    change SatL c [.slot 4 (boolVP false)] a w at h
    clear β
    show Code.wp Tryd.prog _ _ a w
    refine wp_ret ?_
    obtain rfl := Option.some.inj hF
    exact ⟨.inl rfl, ret1 h Tryd.results5 (r_tmp 0 rfl) [] [] rfl rfl rfl⟩
  · replace hF := ff_of hb2 hF
    replace h := h.sub [0, 1] (by rfl)
    change SatL c [.slot 0 (slVP S_law04_Ask.ck a_0), .slot 1 (slVP S_law04_Ask.ck a_1)] a w at h
    refine wp_skip ?_
    show Code.wp Tryd.prog _ _ a w
    refine wp_seq ?_
    refine wp_seq ?_
    obtain ⟨r3, hr3, hF⟩ := bind_some hF
    refine wp_cut (fun a w => ∃ (x5 : Bool), law04_DigestJoins.j1 a_0 a_1 x5 = some r ∧ SatL c [.slot 0 (slVP S_law04_Ask.ck a_0), .slot 1 (slVP S_law04_Ask.ck a_1), .slot 23 (boolVP x5)] a w) ?_ ?_
    · rcases Bool.eq_false_or_eq_true (!r3) with hb87 | hb87
      · replace hF := tt_of hb87 hF
        refine region_do (n := 100) [.slot 16 100000 100000 (fun _ _ => (slVP S_law04_Ask.ck a_0)),
      .slot 17 100000 100000 (fun _ _ => (boolVP r3)),
      .slot 18 100000 100000 (fun _ _ => (boolVP (!r3))),
      .slot 19 100000 100000 (fun _ _ => (boolVP (!r3))),
      .slot 20 100000 100000 (fun _ _ => (eqVP undef)),
      .slot 21 100000 100000 (fun _ _ => (eqVP undef)),
      .slot 22 100000 100000 (fun _ _ => (eqVP undef)),
      .slot 23 100000 100000 (fun _ _ => (boolVP true))] [0, 1, 2, 3, 4, 5, 6, 7] [⟨[0], [], [2], [], some 16⟩, ⟨[2], [], [3], [0], some 17⟩, ⟨[3], [], [4], [0, 1], some 18⟩, ⟨[4], [], [5], [0, 1, 2], some 19⟩, ⟨[5], [], [6], [0, 1, 2, 3], some 20⟩, ⟨[5], [], [7], [0, 1, 2, 3, 4], some 21⟩, ⟨[5], [], [8], [0, 1, 2, 3, 4, 5], some 22⟩, ⟨[5], [], [9], [0, 1, 2, 3, 4, 5, 6], some 23⟩] [0, 1, 9] mixed hn hG h (by kernel_rfl) ?_ ?_
        · exact ⟨⟨rfl, fun β => (GOk.plain (op_move (opt 0 rfl)) rfl)⟩, ⟨rfl, fun β => (GOk.plain (op_call Tryd.call12 (law04_light_ok hr3) ⟨(opt 0 rfl), trivial⟩) rfl)⟩, ⟨rfl, fun β => (GOk.plain (op_un (un_not _) (opt 0 rfl)) rfl)⟩, ⟨rfl, fun β => (GOk.plain (op_move (opt 0 rfl)) rfl)⟩, ⟨rfl, fun β => (GOk.off_v (want := false) hb87 rfl rfl rfl rfl)⟩, ⟨rfl, fun β => (GOk.off_v (want := false) hb87 rfl rfl rfl rfl)⟩, ⟨rfl, fun β => (GOk.off_v (want := false) hb87 rfl rfl rfl rfl)⟩, ⟨rfl, fun β => (GOk.plain (op_pick_t hb87 (opt 0 rfl) (opc (bc _))) rfl)⟩, trivial⟩
        clear h
        intro β a w h
        change SatL c [.slot 0 (slVP S_law04_Ask.ck a_0), .slot 1 (slVP S_law04_Ask.ck a_1), .slot 23 (boolVP true)] a w at h
        clear β
        exact ⟨true, hF, h.sub [0, 1, 2] (by rfl)⟩
      · replace hF := ff_of hb87 hF
        obtain ⟨r4, hr4, hF⟩ := bind_some hF
        refine region_do (n := 100) [.slot 16 100000 100000 (fun _ _ => (slVP S_law04_Ask.ck a_0)),
      .slot 17 100000 100000 (fun _ _ => (boolVP r3)),
      .slot 18 100000 100000 (fun _ _ => (boolVP (!r3))),
      .slot 19 100000 100000 (fun _ _ => (boolVP (!r3))),
      .slot 20 100000 100000 (fun _ _ => (slVP S_law04_Ask.ck a_1)),
      .slot 21 100000 100000 (fun _ _ => (boolVP r4)),
      .slot 22 100000 100000 (fun _ _ => (boolVP (!r4))),
      .slot 23 100000 100000 (fun _ _ => (boolVP (!r4)))] [0, 1, 2, 3, 4, 5, 6, 7] [⟨[0], [], [2], [], some 16⟩, ⟨[2], [], [3], [0], some 17⟩, ⟨[3], [], [4], [0, 1], some 18⟩, ⟨[4], [], [5], [0, 1, 2], some 19⟩, ⟨[5, 1], [], [6], [0, 1, 2, 3], some 20⟩, ⟨[5, 6], [], [7], [0, 1, 2, 3, 4], some 21⟩, ⟨[5, 7], [], [8], [0, 1, 2, 3, 4, 5], some 22⟩, ⟨[5, 8], [], [9], [0, 1, 2, 3, 4, 5, 6], some 23⟩] [0, 1, 9] mixed hn hG h (by kernel_rfl) ?_ ?_
        · exact ⟨⟨rfl, fun β => (GOk.plain (op_move (opt 0 rfl)) rfl)⟩, ⟨rfl, fun β => (GOk.plain (op_call Tryd.call12 (law04_light_ok hr3) ⟨(opt 0 rfl), trivial⟩) rfl)⟩, ⟨rfl, fun β => (GOk.plain (op_un (un_not _) (opt 0 rfl)) rfl)⟩, ⟨rfl, fun β => (GOk.plain (op_move (opt 0 rfl)) rfl)⟩, ⟨rfl, fun β => (GOk.on_eq hb87 rfl rfl rfl (op_move (opt 0 rfl)))⟩, ⟨rfl, fun β => (GOk.on_eq hb87 rfl rfl rfl (op_call Tryd.call12 (law04_light_ok hr4) ⟨(opt 0 rfl), trivial⟩))⟩, ⟨rfl, fun β => (GOk.on_eq hb87 rfl rfl rfl (op_un (un_not _) (opt 0 rfl)))⟩, ⟨rfl, fun β => (GOk.plain (op_pick_f hb87 (opt 0 rfl) (opt 1 rfl)) rfl)⟩, trivial⟩
        clear h
        intro β a w h
        change SatL c [.slot 0 (slVP S_law04_Ask.ck a_0), .slot 1 (slVP S_law04_Ask.ck a_1), .slot 23 (boolVP (!r4))] a w at h
        clear β
        exact ⟨!r4, hF, h.sub [0, 1, 2] (by rfl)⟩
    · clear h hF
      rintro a w ⟨x5, hF, h⟩
      unfold law04_DigestJoins.j1 at hF
      show Code.wp Tryd.prog _ _ a w
      refine cond_L h 2 rfl (fun hb6 => ?_) (fun hb6 => ?_)
      · replace hF := tt_of hb6 hF
        replace h := h.sub [] (by rfl)
        change SatL c [] a w at h
        refine wp_seq ?_
        obtain ⟨r7, hr7, hF⟩ := bind_some hF
        refine region_do (n := 100) [.slot 24 100000 100000 (fun _ _ => (boolVP r7)),
      .slot 4 100000 100000 (fun _ _ => (boolVP r7))] [0, 1] [⟨[], [], [0], [], some 24⟩, ⟨[0], [], [1], [0], some 4⟩] [1] mixed hn hG h (by kernel_rfl) ?_ ?_
        · exact ⟨⟨rfl, fun β => (GOk.plain (op_call Tryd.call11 (law04_awake_ok hr7) trivial) rfl)⟩, ⟨rfl, fun β => (GOk.plain (op_assign (opt 0 rfl)) rfl)⟩, trivial⟩
        clear h
        intro β a w h
        change SatL c [.slot 4 (boolVP r7)] a w at h
        clear β
        show Code.wp Tryd.prog _ _ a w
        refine wp_ret ?_
        obtain rfl := Option.some.inj hF
        exact ⟨.inl rfl, ret1 h Tryd.results5 (r_tmp 0 rfl) [] [] rfl rfl rfl⟩
      · replace hF := ff_of hb6 hF
        replace h := h.sub [0, 1] (by rfl)
        change SatL c [.slot 0 (slVP S_law04_Ask.ck a_0), .slot 1 (slVP S_law04_Ask.ck a_1)] a w at h
        refine wp_skip ?_
        show Code.wp Tryd.prog _ _ a w
        refine wp_seq ?_
        obtain ⟨r8, hr8, hF⟩ := bind_some hF
        obtain ⟨r9, hr9, hF⟩ := bind_some hF
        obtain ⟨r10, hr10, hF⟩ := bind_some hF
        refine region_do (n := 100) [.slot 25 0 100000 (fun v1_ _ => (eqVP v1_)),
      .res 0 100000 (fun v1_ _ => (Log_e (v1_) (some r8))),
      .slot 26 1 100000 (fun v1_ _ => (eqVP v1_)),
      .res 1 100000 (fun v1_ _ => (Log_e (v1_) (some r9))),
      .slot 27 2 100000 (fun v1_ _ => (eqVP v1_)),
      .res 2 100000 (fun v1_ _ => (RLog_e (v1_) (some r10))),
      .slot 5 0 100000 (fun v1_ _ => (eqVP v1_)),
      .slot 6 1 100000 (fun v1_ _ => (eqVP v1_)),
      .slot 7 2 100000 (fun v1_ _ => (eqVP v1_))] [0, 0, 1, 1, 2, 2, 3, 4, 5] [⟨[], [], [2, 3], [], some 25⟩, ⟨[], [], [4, 5], [0], some 26⟩, ⟨[], [], [6, 7], [0, 1], some 27⟩, ⟨[2], [], [8], [0, 1, 2], some 5⟩, ⟨[4], [], [9], [0, 1, 2, 3], some 6⟩, ⟨[6], [], [10], [0, 1, 2, 3, 4], some 7⟩] [0, 1, 8, 9, 10, 3, 5, 7] mixed hn hG h (by kernel_rfl) ?_ ?_
        · exact ⟨⟨rfl, fun β => (GOk.plain (op_callv Tryd.call13 (digest_New_ok hr8) trivial) rfl)⟩, ⟨rfl, fun β => (GOk.plain (op_callv Tryd.call13 (digest_New_ok hr9) trivial) rfl)⟩, ⟨rfl, fun β => (GOk.plain (op_callv Tryd.call17 (ref04_New_ok hr10) trivial) rfl)⟩, ⟨rfl, fun β => (GOk.plain (op_assign (V := (eqVP (β 0))) (opt 0 rfl)) rfl)⟩, ⟨rfl, fun β => (GOk.plain (op_assign (V := (eqVP (β 1))) (opt 0 rfl)) rfl)⟩, ⟨rfl, fun β => (GOk.plain (op_assign (V := (eqVP (β 2))) (opt 0 rfl)) rfl)⟩, trivial⟩
        clear h
        intro β a w h
        change SatL c [.slot 0 (slVP S_law04_Ask.ck a_0), .slot 1 (slVP S_law04_Ask.ck a_1), .slot 5 (eqVP (β 0)), .slot 6 (eqVP (β 1)), .slot 7 (eqVP (β 2)), .res (Log_e (β 0) (some r8)), .res (Log_e (β 1) (some r9)), .res (RLog_e (β 2) (some r10))] a w at h
        generalize β 0 = p11 at h
        generalize β 1 = p12 at h
        generalize β 2 = p13 at h
        clear β
        show Code.wp Tryd.prog _ _ a w
        refine wp_seq ?_
        refine wp_seq ?_
        refine region_do (n := 100) [.slot 28 100000 100000 (fun _ _ => (slVP S_law04_Ask.ck a_0)),
      .slot 29 100000 100000 (fun _ _ => (intVP .i64 (a_0.length : Int))),
      .slot 30 100000 100000 (fun _ _ => (intVP .i64 0))] [0, 1, 2] [⟨[0], [], [8], [], some 28⟩, ⟨[8], [], [9], [0], some 29⟩, ⟨[], [], [10], [0, 1], some 30⟩] [1, 2, 3, 4, 8, 9, 10, 5, 6, 7] mixed hn hG h (by kernel_rfl) ?_ ?_
        · exact ⟨⟨rfl, fun β => (GOk.plain (op_move (opt 0 rfl)) rfl)⟩, ⟨rfl, fun β => (GOk.plain (op_len_sl Tryd.underlying29 (opt 0 rfl)) rfl)⟩, ⟨rfl, fun β => (GOk.plain (op_move (opc (ic (by decide)))) rfl)⟩, trivial⟩
        clear h
        intro β a w h
        change SatL c [.slot 1 (slVP S_law04_Ask.ck a_1), .slot 5 (eqVP p11), .slot 6 (eqVP p12), .slot 7 (eqVP p13), .slot 28 (slVP S_law04_Ask.ck a_0), .slot 29 (intVP .i64 (a_0.length : Int)), .slot 30 (intVP .i64 0), .res (Log_e p11 (some r8)), .res (Log_e p12 (some r9)), .res (RLog_e p13 (some r10))] a w at h
        clear β
        show Code.wp Tryd.prog _ _ a w
        refine wp_block ?_
        obtain ⟨cr35, hl36, hF⟩ := bind_some hF
        refine wp_mono (wp_loopN (R := Bool) (S := Int × (Option O_Log) × (Option O_RLog)) (fun s a w => SatL c [.slot 1 (slVP S_law04_Ask.ck a_1), .slot 5 (eqVP p11), .slot 6 (eqVP p12), .slot 7 (eqVP p13), .slot 28 (slVP S_law04_Ask.ck a_0), .slot 29 (intVP .i64 (a_0.length : Int)), .slot 30 (intVP .i64 s.1), .res (Log_e p11 s.2.1), .res (Log_e p12 (some r9)), .res (RLog_e p13 s.2.2)] a w) (fun res e a w => match res with | .next s => e = .exit 0 ∧ SatL c [.slot 1 (slVP S_law04_Ask.ck a_1), .slot 5 (eqVP p11), .slot 6 (eqVP p12), .slot 7 (eqVP p13), .res (Log_e p11 s.2.1), .res (Log_e p12 (some r9)), .res (RLog_e p13 s.2.2)] a w | .ret r => e = .ret ∧ RetOk Tryd.prog Tryd.f5 c (boolVP r) (fun _ => []) a w) ?_ _ (0, (some r8), (some r10)) _ _ _ (h.sub [0, 1, 2, 3, 4, 5, 6, 7, 8, 9] (by rfl)) hl36) ?_
        · clear hl36 hF h
          intro s a w o h hF
          obtain ⟨x19, x20, x21⟩ := s
          change law04_DigestJoins.b1 a_0 x19 x20 x21 = some o at hF
          unfold law04_DigestJoins.b1 at hF
          change SatL c [.slot 1 (slVP S_law04_Ask.ck a_1), .slot 5 (eqVP p11), .slot 6 (eqVP p12), .slot 7 (eqVP p13), .slot 28 (slVP S_law04_Ask.ck a_0), .slot 29 (intVP .i64 (a_0.length : Int)), .slot 30 (intVP .i64 x19), .res (Log_e p11 x20), .res (Log_e p12 (some r9)), .res (RLog_e p13 x21)] a w at h
          refine wp_seq ?_
          refine region_do (n := 100) [.slot 31 100000 100000 (fun _ _ => (boolVP (decide (x19 < (a_0.length : Int)))))] [0] [⟨[6, 5], [], [10], [], some 31⟩] [0, 1, 2, 3, 4, 5, 6, 10, 7, 8, 9] mixed hn hG h (by kernel_rfl) ?_ ?_
          · exact ⟨⟨rfl, fun β => (GOk.plain (op_bin bin_lss (opt 0 rfl) (opt 1 rfl)) rfl)⟩, trivial⟩
          clear h
          intro β a w h
          change SatL c [.slot 1 (slVP S_law04_Ask.ck a_1), .slot 5 (eqVP p11), .slot 6 (eqVP p12), .slot 7 (eqVP p13), .slot 28 (slVP S_law04_Ask.ck a_0), .slot 29 (intVP .i64 (a_0.length : Int)), .slot 30 (intVP .i64 x19), .slot 31 (boolVP (decide (x19 < (a_0.length : Int)))), .res (Log_e p11 x20), .res (Log_e p12 (some r9)), .res (RLog_e p13 x21)] a w at h
          clear β
          show Code.wp Tryd.prog _ _ a w
          refine wp_seq ?_
          refine cond_L h 7 rfl (fun hb30 => ?_) (fun hb30 => ?_)
          · replace hF := tt_of hb30 hF
            replace h := h.sub [0, 1, 2, 3, 4, 5, 6, 8, 9, 10] (by rfl)
            change SatL c [.slot 1 (slVP S_law04_Ask.ck a_1), .slot 5 (eqVP p11), .slot 6 (eqVP p12), .slot 7 (eqVP p13), .slot 28 (slVP S_law04_Ask.ck a_0), .slot 29 (intVP .i64 (a_0.length : Int)), .slot 30 (intVP .i64 x19), .res (Log_e p11 x20), .res (Log_e p12 (some r9)), .res (RLog_e p13 x21)] a w at h
            refine wp_skip ?_
            show Code.wp Tryd.prog _ _ a w
            refine wp_seq ?_
            refine wp_block ?_
            refine wp_seq ?_
            obtain ⟨hv31, hF⟩ := ite_some hF
            refine region_do (n := 100) [.slot 32 100000 100000 (fun _ _ => (ppVP [one (intVP .u8 ((a_0.getD x19.toNat default).f_Domain)), one (slVP strC ((a_0.getD x19.toNat default).f_Parts)), one (boolVP ((a_0.getD x19.toNat default).f_Two)), bytesCk 32 ((a_0.getD x19.toNat default).f_A), bytesCk 32 ((a_0.getD x19.toNat default).f_B)])),
      .slot 33 100000 100000 (fun _ _ => (aggVP [one (intVP .u8 ((a_0.getD x19.toNat default).f_Domain)), one (slVP strC ((a_0.getD x19.toNat default).f_Parts)), one (boolVP ((a_0.getD x19.toNat default).f_Two)), bytesCk 32 ((a_0.getD x19.toNat default).f_A), bytesCk 32 ((a_0.getD x19.toNat default).f_B)])),
      .slot 9 2 100000 (fun v1_ _ => (lpVP v1_ 0)),
      .res 2 100000 (fun v1_ _ => (lb (v1_) 26 [one (intVP .u8 ((S_law04_Ask.mk (0 : Int) [] false (List.replicate 32 0) (List.replicate 32 0)).f_Domain)), one (slVP strC ((S_law04_Ask.mk (0 : Int) [] false (List.replicate 32 0) (List.replicate 32 0)).f_Parts)), one (boolVP ((S_law04_Ask.mk (0 : Int) [] false (List.replicate 32 0) (List.replicate 32 0)).f_Two)), bytesCk 32 ((S_law04_Ask.mk (0 : Int) [] false (List.replicate 32 0) (List.replicate 32 0)).f_A), bytesCk 32 ((S_law04_Ask.mk (0 : Int) [] false (List.replicate 32 0) (List.replicate 32 0)).f_B)])),
      .res 2 100000 (fun v1_ _ => (lb (v1_) 26 [one (intVP .u8 ((a_0.getD x19.toNat default).f_Domain)), one (slVP strC ((a_0.getD x19.toNat default).f_Parts)), one (boolVP ((a_0.getD x19.toNat default).f_Two)), bytesCk 32 ((a_0.getD x19.toNat default).f_A), bytesCk 32 ((a_0.getD x19.toNat default).f_B)]))] [0, 1, 2, 2, 3] [⟨[4, 6], [], [10], [], some 32⟩, ⟨[10], [], [11], [0], some 33⟩, ⟨[], [], [12, 13], [0, 1], some 9⟩, ⟨[12, 11], [13], [14], [0, 1, 2], none⟩] [0, 1, 2, 3, 12, 4, 5, 6, 7, 8, 9, 14] mixed hn hG h (by kernel_rfl) ?_ ?_
            · exact ⟨⟨rfl, fun β => (GOk.plain (op_indexAddr_sl Tryd.underlying29 Tryd.sizeOf26 S_law04_Ask.lens (opt 0 rfl) (opt 1 rfl) hv31) rfl)⟩, ⟨rfl, fun β => (GOk.plain (op_load_pp [one (intVP .u8 ((a_0.getD x19.toNat default).f_Domain)), one (slVP strC ((a_0.getD x19.toNat default).f_Parts)), one (boolVP ((a_0.getD x19.toNat default).f_Two)), bytesCk 32 ((a_0.getD x19.toNat default).f_A), bytesCk 32 ((a_0.getD x19.toNat default).f_B)] [] Tryd.isAgg26 Tryd.sizeOf26 (opt 0 rfl) rfl) rfl)⟩, ⟨rfl, fun β => (GOk.plain (op_alloc Tryd.zeroValue26 z26) rfl)⟩, ⟨rfl, fun β => (GOk.plain (op_store_lb [] [one (intVP .u8 ((S_law04_Ask.mk (0 : Int) [] false (List.replicate 32 0) (List.replicate 32 0)).f_Domain)), one (slVP strC ((S_law04_Ask.mk (0 : Int) [] false (List.replicate 32 0) (List.replicate 32 0)).f_Parts)), one (boolVP ((S_law04_Ask.mk (0 : Int) [] false (List.replicate 32 0) (List.replicate 32 0)).f_Two)), bytesCk 32 ((S_law04_Ask.mk (0 : Int) [] false (List.replicate 32 0) (List.replicate 32 0)).f_A), bytesCk 32 ((S_law04_Ask.mk (0 : Int) [] false (List.replicate 32 0) (List.replicate 32 0)).f_B)] [] [one (intVP .u8 ((a_0.getD x19.toNat default).f_Domain)), one (slVP strC ((a_0.getD x19.toNat default).f_Parts)), one (boolVP ((a_0.getD x19.toNat default).f_Two)), bytesCk 32 ((a_0.getD x19.toNat default).f_A), bytesCk 32 ((a_0.getD x19.toNat default).f_B)] Tryd.sizeOf26 (opt 0 rfl) (opt 1 rfl) (cells_agg _) rfl rfl rfl) rfl)⟩, trivial⟩
            clear h
            intro β a w h
            change SatL c [.slot 1 (slVP S_law04_Ask.ck a_1), .slot 5 (eqVP p11), .slot 6 (eqVP p12), .slot 7 (eqVP p13), .slot 9 (lpVP (β 2) 0), .slot 28 (slVP S_law04_Ask.ck a_0), .slot 29 (intVP .i64 (a_0.length : Int)), .slot 30 (intVP .i64 x19), .res (Log_e p11 x20), .res (Log_e p12 (some r9)), .res (RLog_e p13 x21), .res (lb (β 2) 26 [one (intVP .u8 ((a_0.getD x19.toNat default).f_Domain)), one (slVP strC ((a_0.getD x19.toNat default).f_Parts)), one (boolVP ((a_0.getD x19.toNat default).f_Two)), bytesCk 32 ((a_0.getD x19.toNat default).f_A), bytesCk 32 ((a_0.getD x19.toNat default).f_B)])] a w at h
            generalize β 2 = p32 at h
            clear β
            show Code.wp Tryd.prog _ _ a w
            refine wp_seq ?_
            obtain ⟨r33, hr33, hF⟩ := bind_some hF
            refine region_do (n := 100) [.slot 34 100000 100000 (fun _ _ => (eqVP p11)),
      .slot 35 100000 100000 (fun _ _ => (lpVP p32 0)),
      .slot 36 100000 100000 (fun _ _ => (intVP .u8 ((a_0.getD x19.toNat default).f_Domain))),
      .slot 37 100000 100000 (fun _ _ => (lpVP p32 1)),
      .slot 38 100000 100000 (fun _ _ => (slVP strC ((a_0.getD x19.toNat default).f_Parts))),
      .slot 39 100000 100000 (fun _ _ => (aggVP [bytesCk 32 r33.1])),
      .res 100000 100000 (fun _ _ => (Log_e p11 r33.2))] [0, 1, 2, 3, 4, 5, 5] [⟨[1], [], [12], [], some 34⟩, ⟨[4], [], [13], [0], some 35⟩, ⟨[13, 11], [], [14], [0, 1], some 36⟩, ⟨[4], [], [15], [0, 1, 2], some 37⟩, ⟨[15, 11], [], [16], [0, 1, 2, 3], some 38⟩, ⟨[12, 14, 16], [8], [17, 18], [0, 1, 2, 3, 4], some 39⟩] [0, 1, 2, 3, 4, 5, 6, 7, 9, 10, 11, 18] mixed hn hG h (by kernel_rfl) ?_ ?_
            · exact ⟨⟨rfl, fun β => (GOk.plain (op_move (opt 0 rfl)) rfl)⟩, ⟨rfl, fun β => (GOk.plain (op_fieldAddr_lbm (p := p32) (n := 1) 0 0 Tryd.underlying26 rfl Tryd.sizeOf5 (by decide) (opt 0 rfl) rfl) rfl)⟩, ⟨rfl, fun β => (GOk.plain (op_load_lb1 [] [one (slVP strC ((a_0.getD x19.toNat default).f_Parts)), one (boolVP ((a_0.getD x19.toNat default).f_Two)), bytesCk 32 ((a_0.getD x19.toNat default).f_A), bytesCk 32 ((a_0.getD x19.toNat default).f_B)] 1 Tryd.isAgg5 (opt 0 rfl) rfl rfl) rfl)⟩, ⟨rfl, fun β => (GOk.plain (op_fieldAddr_lbm (p := p32) (n := 1) 0 1 Tryd.underlying26 rfl Tryd.sizeOf22 (by decide) (opt 0 rfl) rfl) rfl)⟩, ⟨rfl, fun β => (GOk.plain (op_load_lb1 [one (intVP .u8 ((a_0.getD x19.toNat default).f_Domain))] [one (boolVP ((a_0.getD x19.toNat default).f_Two)), bytesCk 32 ((a_0.getD x19.toNat default).f_A), bytesCk 32 ((a_0.getD x19.toNat default).f_B)] 1 Tryd.isAgg22 (opt 0 rfl) rfl rfl) rfl)⟩, ⟨rfl, fun β => (GOk.plain (op_call Tryd.call14 (digest_Log_Of_ok hr33) ⟨(opt 0 rfl), (opt 1 rfl), (opt 2 rfl), trivial⟩) rfl)⟩, trivial⟩
            clear h
            intro β a w h
            change SatL c [.slot 1 (slVP S_law04_Ask.ck a_1), .slot 5 (eqVP p11), .slot 6 (eqVP p12), .slot 7 (eqVP p13), .slot 9 (lpVP p32 0), .slot 28 (slVP S_law04_Ask.ck a_0), .slot 29 (intVP .i64 (a_0.length : Int)), .slot 30 (intVP .i64 x19), .res (Log_e p12 (some r9)), .res (RLog_e p13 x21), .res (lb p32 26 [one (intVP .u8 ((a_0.getD x19.toNat default).f_Domain)), one (slVP strC ((a_0.getD x19.toNat default).f_Parts)), one (boolVP ((a_0.getD x19.toNat default).f_Two)), bytesCk 32 ((a_0.getD x19.toNat default).f_A), bytesCk 32 ((a_0.getD x19.toNat default).f_B)]), .res (Log_e p11 r33.2)] a w at h
            clear β
            show Code.wp Tryd.prog _ _ a w
            obtain ⟨r34, hr34, hF⟩ := bind_some hF
            refine region_do (n := 100) [.slot 40 100000 100000 (fun _ _ => (eqVP p13)),
      .slot 41 100000 100000 (fun _ _ => (lpVP p32 0)),
      .slot 42 100000 100000 (fun _ _ => (intVP .u8 ((a_0.getD x19.toNat default).f_Domain))),
      .slot 43 100000 100000 (fun _ _ => (lpVP p32 1)),
      .slot 44 100000 100000 (fun _ _ => (slVP strC ((a_0.getD x19.toNat default).f_Parts))),
      .slot 45 100000 100000 (fun _ _ => (aggVP [bytesCk 32 r34.1])),
      .res 100000 100000 (fun _ _ => (RLog_e p13 r34.2))] [0, 1, 2, 3, 4, 5, 5] [⟨[3], [], [12], [], some 40⟩, ⟨[4], [], [13], [0], some 41⟩, ⟨[13, 10], [], [14], [0, 1], some 42⟩, ⟨[4], [], [15], [0, 1, 2], some 43⟩, ⟨[15, 10], [], [16], [0, 1, 2, 3], some 44⟩, ⟨[12, 14, 16], [9], [17, 18], [0, 1, 2, 3, 4], some 45⟩] [0, 1, 2, 3, 5, 6, 7, 8, 11, 18] mixed hn hG h (by kernel_rfl) ?_ ?_
            · exact ⟨⟨rfl, fun β => (GOk.plain (op_move (opt 0 rfl)) rfl)⟩, ⟨rfl, fun β => (GOk.plain (op_fieldAddr_lbm (p := p32) (n := 1) 0 0 Tryd.underlying26 rfl Tryd.sizeOf5 (by decide) (opt 0 rfl) rfl) rfl)⟩, ⟨rfl, fun β => (GOk.plain (op_load_lb1 [] [one (slVP strC ((a_0.getD x19.toNat default).f_Parts)), one (boolVP ((a_0.getD x19.toNat default).f_Two)), bytesCk 32 ((a_0.getD x19.toNat default).f_A), bytesCk 32 ((a_0.getD x19.toNat default).f_B)] 1 Tryd.isAgg5 (opt 0 rfl) rfl rfl) rfl)⟩, ⟨rfl, fun β => (GOk.plain (op_fieldAddr_lbm (p := p32) (n := 1) 0 1 Tryd.underlying26 rfl Tryd.sizeOf22 (by decide) (opt 0 rfl) rfl) rfl)⟩, ⟨rfl, fun β => (GOk.plain (op_load_lb1 [one (intVP .u8 ((a_0.getD x19.toNat default).f_Domain))] [one (boolVP ((a_0.getD x19.toNat default).f_Two)), bytesCk 32 ((a_0.getD x19.toNat default).f_A), bytesCk 32 ((a_0.getD x19.toNat default).f_B)] 1 Tryd.isAgg22 (opt 0 rfl) rfl rfl) rfl)⟩, ⟨rfl, fun β => (GOk.plain (op_call Tryd.call20 (ref04_Log_Of_ok hr34) ⟨(opt 0 rfl), (opt 1 rfl), (opt 2 rfl), trivial⟩) rfl)⟩, trivial⟩
            clear h
            intro β a w h
            change SatL c [.slot 1 (slVP S_law04_Ask.ck a_1), .slot 5 (eqVP p11), .slot 6 (eqVP p12), .slot 7 (eqVP p13), .slot 28 (slVP S_law04_Ask.ck a_0), .slot 29 (intVP .i64 (a_0.length : Int)), .slot 30 (intVP .i64 x19), .res (Log_e p12 (some r9)), .res (Log_e p11 r33.2), .res (RLog_e p13 r34.2)] a w at h
            clear β
            show Code.wp Tryd.prog _ _ a w
            refine region_do (n := 100) [.slot 46 100000 100000 (fun _ _ => (intVP .i64 (IntKind.wrap .i64 (x19 + 1)))),
      .slot 30 100000 100000 (fun _ _ => (intVP .i64 (IntKind.wrap .i64 (x19 + 1))))] [0, 1] [⟨[6], [], [10], [], some 46⟩, ⟨[10], [6], [11], [0], some 30⟩] [0, 1, 2, 3, 4, 5, 11, 7, 8, 9] mixed hn hG h (by kernel_rfl) ?_ ?_
            · exact ⟨⟨rfl, fun β => (GOk.plain (op_bin bin_add (opt 0 rfl) (opc (ic (by decide)))) rfl)⟩, ⟨rfl, fun β => (GOk.drop _ (GOk.plain (op_move (opt 0 rfl)) rfl))⟩, trivial⟩
            clear h
            intro β a w h
            change SatL c [.slot 1 (slVP S_law04_Ask.ck a_1), .slot 5 (eqVP p11), .slot 6 (eqVP p12), .slot 7 (eqVP p13), .slot 28 (slVP S_law04_Ask.ck a_0), .slot 29 (intVP .i64 (a_0.length : Int)), .slot 30 (intVP .i64 (IntKind.wrap .i64 (x19 + 1))), .res (Log_e p12 (some r9)), .res (Log_e p11 r33.2), .res (RLog_e p13 r34.2)] a w at h
            clear β
            obtain rfl := Option.some.inj hF
            exact ⟨rfl, h.sub [0, 1, 2, 3, 4, 5, 6, 8, 7, 9] (by rfl)⟩
          · replace hF := ff_of hb30 hF
            replace h := h.sub [0, 1, 2, 3, 4, 5, 6, 8, 9, 10] (by rfl)
            change SatL c [.slot 1 (slVP S_law04_Ask.ck a_1), .slot 5 (eqVP p11), .slot 6 (eqVP p12), .slot 7 (eqVP p13), .slot 28 (slVP S_law04_Ask.ck a_0), .slot 29 (intVP .i64 (a_0.length : Int)), .slot 30 (intVP .i64 x19), .res (Log_e p11 x20), .res (Log_e p12 (some r9)), .res (RLog_e p13 x21)] a w at h
            refine wp_exit ?_
            obtain rfl := Option.some.inj hF
            exact ⟨exit_ne _, rfl, h.sub [0, 1, 2, 3, 7, 8, 9] (by rfl)⟩
        · clear hl36
          intro e a w hq
          cases cr35 with
          | ret r37 =>
            obtain ⟨rfl, hq⟩ := hq
            obtain rfl := Option.some.inj hF
            exact ⟨.inl rfl, hq⟩
          | next s38 =>
            obtain ⟨y39, y40, y41⟩ := s38
            obtain ⟨rfl, h⟩ := hq
            change SatL c [.slot 1 (slVP S_law04_Ask.ck a_1), .slot 5 (eqVP p11), .slot 6 (eqVP p12), .slot 7 (eqVP p13), .res (Log_e p11 y40), .res (Log_e p12 (some r9)), .res (RLog_e p13 y41)] a w at h
            refine inBlock_at ?_
            show Code.wp Tryd.prog _ _ a w
            refine wp_seq ?_
            refine wp_seq ?_
            refine region_do (n := 100) [.slot 47 100000 100000 (fun _ _ => (slVP S_law04_Ask.ck a_1)),
      .slot 48 100000 100000 (fun _ _ => (intVP .i64 (a_1.length : Int))),
      .slot 49 100000 100000 (fun _ _ => (intVP .i64 0))] [0, 1, 2] [⟨[0], [], [7], [], some 47⟩, ⟨[7], [], [8], [0], some 48⟩, ⟨[], [], [9], [0, 1], some 49⟩] [1, 2, 3, 7, 8, 9, 4, 5, 6] mixed hn hG h (by kernel_rfl) ?_ ?_
            · exact ⟨⟨rfl, fun β => (GOk.plain (op_move (opt 0 rfl)) rfl)⟩, ⟨rfl, fun β => (GOk.plain (op_len_sl Tryd.underlying29 (opt 0 rfl)) rfl)⟩, ⟨rfl, fun β => (GOk.plain (op_move (opc (ic (by decide)))) rfl)⟩, trivial⟩
            clear h
            intro β a w h
            change SatL c [.slot 5 (eqVP p11), .slot 6 (eqVP p12), .slot 7 (eqVP p13), .slot 47 (slVP S_law04_Ask.ck a_1), .slot 48 (intVP .i64 (a_1.length : Int)), .slot 49 (intVP .i64 0), .res (Log_e p11 y40), .res (Log_e p12 (some r9)), .res (RLog_e p13 y41)] a w at h
            clear β
            show Code.wp Tryd.prog _ _ a w
            refine wp_block ?_
            obtain ⟨cr63, hl64, hF⟩ := bind_some hF
            refine wp_mono (wp_loopN (R := Bool) (S := Int × (Option O_Log) × (Option O_RLog)) (fun s a w => SatL c [.slot 5 (eqVP p11), .slot 6 (eqVP p12), .slot 7 (eqVP p13), .slot 47 (slVP S_law04_Ask.ck a_1), .slot 48 (intVP .i64 (a_1.length : Int)), .slot 49 (intVP .i64 s.1), .res (Log_e p11 y40), .res (Log_e p12 s.2.1), .res (RLog_e p13 s.2.2)] a w) (fun res e a w => match res with | .next s => e = .exit 2 ∧ SatL c [.slot 5 (eqVP p11), .slot 6 (eqVP p12), .slot 7 (eqVP p13), .res (Log_e p11 y40), .res (Log_e p12 s.2.1), .res (RLog_e p13 s.2.2)] a w | .ret r => e = .ret ∧ RetOk Tryd.prog Tryd.f5 c (boolVP r) (fun _ => []) a w) ?_ _ (0, (some r9), y41) _ _ _ (h.sub [0, 1, 2, 3, 4, 5, 6, 7, 8] (by rfl)) hl64) ?_
            · clear hl64 hF h
              intro s a w o h hF
              obtain ⟨x47, x48, x49⟩ := s
              change law04_DigestJoins.b2 a_1 x47 x48 x49 = some o at hF
              unfold law04_DigestJoins.b2 at hF
              change SatL c [.slot 5 (eqVP p11), .slot 6 (eqVP p12), .slot 7 (eqVP p13), .slot 47 (slVP S_law04_Ask.ck a_1), .slot 48 (intVP .i64 (a_1.length : Int)), .slot 49 (intVP .i64 x47), .res (Log_e p11 y40), .res (Log_e p12 x48), .res (RLog_e p13 x49)] a w at h
              refine wp_seq ?_
              refine region_do (n := 100) [.slot 50 100000 100000 (fun _ _ => (boolVP (decide (x47 < (a_1.length : Int)))))] [0] [⟨[5, 4], [], [9], [], some 50⟩] [0, 1, 2, 3, 4, 5, 9, 6, 7, 8] mixed hn hG h (by kernel_rfl) ?_ ?_
              · exact ⟨⟨rfl, fun β => (GOk.plain (op_bin bin_lss (opt 0 rfl) (opt 1 rfl)) rfl)⟩, trivial⟩
              clear h
              intro β a w h
              change SatL c [.slot 5 (eqVP p11), .slot 6 (eqVP p12), .slot 7 (eqVP p13), .slot 47 (slVP S_law04_Ask.ck a_1), .slot 48 (intVP .i64 (a_1.length : Int)), .slot 49 (intVP .i64 x47), .slot 50 (boolVP (decide (x47 < (a_1.length : Int)))), .res (Log_e p11 y40), .res (Log_e p12 x48), .res (RLog_e p13 x49)] a w at h
              clear β
              show Code.wp Tryd.prog _ _ a w
              refine wp_seq ?_
              refine cond_L h 6 rfl (fun hb58 => ?_) (fun hb58 => ?_)
              · replace hF := tt_of hb58 hF
                replace h := h.sub [0, 1, 2, 3, 4, 5, 7, 8, 9] (by rfl)
                change SatL c [.slot 5 (eqVP p11), .slot 6 (eqVP p12), .slot 7 (eqVP p13), .slot 47 (slVP S_law04_Ask.ck a_1), .slot 48 (intVP .i64 (a_1.length : Int)), .slot 49 (intVP .i64 x47), .res (Log_e p11 y40), .res (Log_e p12 x48), .res (RLog_e p13 x49)] a w at h
                refine wp_skip ?_
                show Code.wp Tryd.prog _ _ a w
                refine wp_seq ?_
                refine wp_block ?_
                refine wp_seq ?_
                obtain ⟨hv59, hF⟩ := ite_some hF
                refine region_do (n := 100) [.slot 51 100000 100000 (fun _ _ => (ppVP [one (intVP .u8 ((a_1.getD x47.toNat default).f_Domain)), one (slVP strC ((a_1.getD x47.toNat default).f_Parts)), one (boolVP ((a_1.getD x47.toNat default).f_Two)), bytesCk 32 ((a_1.getD x47.toNat default).f_A), bytesCk 32 ((a_1.getD x47.toNat default).f_B)])),
      .slot 52 100000 100000 (fun _ _ => (aggVP [one (intVP .u8 ((a_1.getD x47.toNat default).f_Domain)), one (slVP strC ((a_1.getD x47.toNat default).f_Parts)), one (boolVP ((a_1.getD x47.toNat default).f_Two)), bytesCk 32 ((a_1.getD x47.toNat default).f_A), bytesCk 32 ((a_1.getD x47.toNat default).f_B)])),
      .slot 11 2 100000 (fun v1_ _ => (lpVP v1_ 0)),
      .res 2 100000 (fun v1_ _ => (lb (v1_) 26 [one (intVP .u8 ((S_law04_Ask.mk (0 : Int) [] false (List.replicate 32 0) (List.replicate 32 0)).f_Domain)), one (slVP strC ((S_law04_Ask.mk (0 : Int) [] false (List.replicate 32 0) (List.replicate 32 0)).f_Parts)), one (boolVP ((S_law04_Ask.mk (0 : Int) [] false (List.replicate 32 0) (List.replicate 32 0)).f_Two)), bytesCk 32 ((S_law04_Ask.mk (0 : Int) [] false (List.replicate 32 0) (List.replicate 32 0)).f_A), bytesCk 32 ((S_law04_Ask.mk (0 : Int) [] false (List.replicate 32 0) (List.replicate 32 0)).f_B)])),
      .res 2 100000 (fun v1_ _ => (lb (v1_) 26 [one (intVP .u8 ((a_1.getD x47.toNat default).f_Domain)), one (slVP strC ((a_1.getD x47.toNat default).f_Parts)), one (boolVP ((a_1.getD x47.toNat default).f_Two)), bytesCk 32 ((a_1.getD x47.toNat default).f_A), bytesCk 32 ((a_1.getD x47.toNat default).f_B)]))] [0, 1, 2, 2, 3] [⟨[3, 5], [], [9], [], some 51⟩, ⟨[9], [], [10], [0], some 52⟩, ⟨[], [], [11, 12], [0, 1], some 11⟩, ⟨[11, 10], [12], [13], [0, 1, 2], none⟩] [0, 1, 2, 11, 3, 4, 5, 6, 7, 8, 13] mixed hn hG h (by kernel_rfl) ?_ ?_
                · exact ⟨⟨rfl, fun β => (GOk.plain (op_indexAddr_sl Tryd.underlying29 Tryd.sizeOf26 S_law04_Ask.lens (opt 0 rfl) (opt 1 rfl) hv59) rfl)⟩, ⟨rfl, fun β => (GOk.plain (op_load_pp [one (intVP .u8 ((a_1.getD x47.toNat default).f_Domain)), one (slVP strC ((a_1.getD x47.toNat default).f_Parts)), one (boolVP ((a_1.getD x47.toNat default).f_Two)), bytesCk 32 ((a_1.getD x47.toNat default).f_A), bytesCk 32 ((a_1.getD x47.toNat default).f_B)] [] Tryd.isAgg26 Tryd.sizeOf26 (opt 0 rfl) rfl) rfl)⟩, ⟨rfl, fun β => (GOk.plain (op_alloc Tryd.zeroValue26 z26) rfl)⟩, ⟨rfl, fun β => (GOk.plain (op_store_lb [] [one (intVP .u8 ((S_law04_Ask.mk (0 : Int) [] false (List.replicate 32 0) (List.replicate 32 0)).f_Domain)), one (slVP strC ((S_law04_Ask.mk (0 : Int) [] false (List.replicate 32 0) (List.replicate 32 0)).f_Parts)), one (boolVP ((S_law04_Ask.mk (0 : Int) [] false (List.replicate 32 0) (List.replicate 32 0)).f_Two)), bytesCk 32 ((S_law04_Ask.mk (0 : Int) [] false (List.replicate 32 0) (List.replicate 32 0)).f_A), bytesCk 32 ((S_law04_Ask.mk (0 : Int) [] false (List.replicate 32 0) (List.replicate 32 0)).f_B)] [] [one (intVP .u8 ((a_1.getD x47.toNat default).f_Domain)), one (slVP strC ((a_1.getD x47.toNat default).f_Parts)), one (boolVP ((a_1.getD x47.toNat default).f_Two)), bytesCk 32 ((a_1.getD x47.toNat default).f_A), bytesCk 32 ((a_1.getD x47.toNat default).f_B)] Tryd.sizeOf26 (opt 0 rfl) (opt 1 rfl) (cells_agg _) rfl rfl rfl) rfl)⟩, trivial⟩
                clear h
                intro β a w h
                change SatL c [.slot 5 (eqVP p11), .slot 6 (eqVP p12), .slot 7 (eqVP p13), .slot 11 (lpVP (β 2) 0), .slot 47 (slVP S_law04_Ask.ck a_1), .slot 48 (intVP .i64 (a_1.length : Int)), .slot 49 (intVP .i64 x47), .res (Log_e p11 y40), .res (Log_e p12 x48), .res (RLog_e p13 x49), .res (lb (β 2) 26 [one (intVP .u8 ((a_1.getD x47.toNat default).f_Domain)), one (slVP strC ((a_1.getD x47.toNat default).f_Parts)), one (boolVP ((a_1.getD x47.toNat default).f_Two)), bytesCk 32 ((a_1.getD x47.toNat default).f_A), bytesCk 32 ((a_1.getD x47.toNat default).f_B)])] a w at h
                generalize β 2 = p60 at h
                clear β
                show Code.wp Tryd.prog _ _ a w
                refine wp_seq ?_
                obtain ⟨r61, hr61, hF⟩ := bind_some hF
                refine region_do (n := 100) [.slot 53 100000 100000 (fun _ _ => (eqVP p12)),
      .slot 54 100000 100000 (fun _ _ => (lpVP p60 0)),
      .slot 55 100000 100000 (fun _ _ => (intVP .u8 ((a_1.getD x47.toNat default).f_Domain))),
      .slot 56 100000 100000 (fun _ _ => (lpVP p60 1)),
      .slot 57 100000 100000 (fun _ _ => (slVP strC ((a_1.getD x47.toNat default).f_Parts))),
      .slot 58 100000 100000 (fun _ _ => (aggVP [bytesCk 32 r61.1])),
      .res 100000 100000 (fun _ _ => (Log_e p12 r61.2))] [0, 1, 2, 3, 4, 5, 5] [⟨[1], [], [11], [], some 53⟩, ⟨[3], [], [12], [0], some 54⟩, ⟨[12, 10], [], [13], [0, 1], some 55⟩, ⟨[3], [], [14], [0, 1, 2], some 56⟩, ⟨[14, 10], [], [15], [0, 1, 2, 3], some 57⟩, ⟨[11, 13, 15], [8], [16, 17], [0, 1, 2, 3, 4], some 58⟩] [0, 1, 2, 3, 4, 5, 6, 7, 9, 10, 17] mixed hn hG h (by kernel_rfl) ?_ ?_
                · exact ⟨⟨rfl, fun β => (GOk.plain (op_move (opt 0 rfl)) rfl)⟩, ⟨rfl, fun β => (GOk.plain (op_fieldAddr_lbm (p := p60) (n := 1) 0 0 Tryd.underlying26 rfl Tryd.sizeOf5 (by decide) (opt 0 rfl) rfl) rfl)⟩, ⟨rfl, fun β => (GOk.plain (op_load_lb1 [] [one (slVP strC ((a_1.getD x47.toNat default).f_Parts)), one (boolVP ((a_1.getD x47.toNat default).f_Two)), bytesCk 32 ((a_1.getD x47.toNat default).f_A), bytesCk 32 ((a_1.getD x47.toNat default).f_B)] 1 Tryd.isAgg5 (opt 0 rfl) rfl rfl) rfl)⟩, ⟨rfl, fun β => (GOk.plain (op_fieldAddr_lbm (p := p60) (n := 1) 0 1 Tryd.underlying26 rfl Tryd.sizeOf22 (by decide) (opt 0 rfl) rfl) rfl)⟩, ⟨rfl, fun β => (GOk.plain (op_load_lb1 [one (intVP .u8 ((a_1.getD x47.toNat default).f_Domain))] [one (boolVP ((a_1.getD x47.toNat default).f_Two)), bytesCk 32 ((a_1.getD x47.toNat default).f_A), bytesCk 32 ((a_1.getD x47.toNat default).f_B)] 1 Tryd.isAgg22 (opt 0 rfl) rfl rfl) rfl)⟩, ⟨rfl, fun β => (GOk.plain (op_call Tryd.call14 (digest_Log_Of_ok hr61) ⟨(opt 0 rfl), (opt 1 rfl), (opt 2 rfl), trivial⟩) rfl)⟩, trivial⟩
                clear h
                intro β a w h
                change SatL c [.slot 5 (eqVP p11), .slot 6 (eqVP p12), .slot 7 (eqVP p13), .slot 11 (lpVP p60 0), .slot 47 (slVP S_law04_Ask.ck a_1), .slot 48 (intVP .i64 (a_1.length : Int)), .slot 49 (intVP .i64 x47), .res (Log_e p11 y40), .res (RLog_e p13 x49), .res (lb p60 26 [one (intVP .u8 ((a_1.getD x47.toNat default).f_Domain)), one (slVP strC ((a_1.getD x47.toNat default).f_Parts)), one (boolVP ((a_1.getD x47.toNat default).f_Two)), bytesCk 32 ((a_1.getD x47.toNat default).f_A), bytesCk 32 ((a_1.getD x47.toNat default).f_B)]), .res (Log_e p12 r61.2)] a w at h
                clear β
                show Code.wp Tryd.prog _ _ a w
                obtain ⟨r62, hr62, hF⟩ := bind_some hF
                refine region_do (n := 100) [.slot 59 100000 100000 (fun _ _ => (eqVP p13)),
      .slot 60 100000 100000 (fun _ _ => (lpVP p60 0)),
      .slot 61 100000 100000 (fun _ _ => (intVP .u8 ((a_1.getD x47.toNat default).f_Domain))),
      .slot 62 100000 100000 (fun _ _ => (lpVP p60 1)),
      .slot 63 100000 100000 (fun _ _ => (slVP strC ((a_1.getD x47.toNat default).f_Parts))),
      .slot 64 100000 100000 (fun _ _ => (aggVP [bytesCk 32 r62.1])),
      .res 100000 100000 (fun _ _ => (RLog_e p13 r62.2))] [0, 1, 2, 3, 4, 5, 5] [⟨[2], [], [11], [], some 59⟩, ⟨[3], [], [12], [0], some 60⟩, ⟨[12, 9], [], [13], [0, 1], some 61⟩, ⟨[3], [], [14], [0, 1, 2], some 62⟩, ⟨[14, 9], [], [15], [0, 1, 2, 3], some 63⟩, ⟨[11, 13, 15], [8], [16, 17], [0, 1, 2, 3, 4], some 64⟩] [0, 1, 2, 4, 5, 6, 7, 10, 17] mixed hn hG h (by kernel_rfl) ?_ ?_
                · exact ⟨⟨rfl, fun β => (GOk.plain (op_move (opt 0 rfl)) rfl)⟩, ⟨rfl, fun β => (GOk.plain (op_fieldAddr_lbm (p := p60) (n := 1) 0 0 Tryd.underlying26 rfl Tryd.sizeOf5 (by decide) (opt 0 rfl) rfl) rfl)⟩, ⟨rfl, fun β => (GOk.plain (op_load_lb1 [] [one (slVP strC ((a_1.getD x47.toNat default).f_Parts)), one (boolVP ((a_1.getD x47.toNat default).f_Two)), bytesCk 32 ((a_1.getD x47.toNat default).f_A), bytesCk 32 ((a_1.getD x47.toNat default).f_B)] 1 Tryd.isAgg5 (opt 0 rfl) rfl rfl) rfl)⟩, ⟨rfl, fun β => (GOk.plain (op_fieldAddr_lbm (p := p60) (n := 1) 0 1 Tryd.underlying26 rfl Tryd.sizeOf22 (by decide) (opt 0 rfl) rfl) rfl)⟩, ⟨rfl, fun β => (GOk.plain (op_load_lb1 [one (intVP .u8 ((a_1.getD x47.toNat default).f_Domain))] [one (boolVP ((a_1.getD x47.toNat default).f_Two)), bytesCk 32 ((a_1.getD x47.toNat default).f_A), bytesCk 32 ((a_1.getD x47.toNat default).f_B)] 1 Tryd.isAgg22 (opt 0 rfl) rfl rfl) rfl)⟩, ⟨rfl, fun β => (GOk.plain (op_call Tryd.call20 (ref04_Log_Of_ok hr62) ⟨(opt 0 rfl), (opt 1 rfl), (opt 2 rfl), trivial⟩) rfl)⟩, trivial⟩
                clear h
                intro β a w h
                change SatL c [.slot 5 (eqVP p11), .slot 6 (eqVP p12), .slot 7 (eqVP p13), .slot 47 (slVP S_law04_Ask.ck a_1), .slot 48 (intVP .i64 (a_1.length : Int)), .slot 49 (intVP .i64 x47), .res (Log_e p11 y40), .res (Log_e p12 r61.2), .res (RLog_e p13 r62.2)] a w at h
                clear β
                show Code.wp Tryd.prog _ _ a w
                refine region_do (n := 100) [.slot 65 100000 100000 (fun _ _ => (intVP .i64 (IntKind.wrap .i64 (x47 + 1)))),
      .slot 49 100000 100000 (fun _ _ => (intVP .i64 (IntKind.wrap .i64 (x47 + 1))))] [0, 1] [⟨[5], [], [9], [], some 65⟩, ⟨[9], [5], [10], [0], some 49⟩] [0, 1, 2, 3, 4, 10, 6, 7, 8] mixed hn hG h (by kernel_rfl) ?_ ?_
                · exact ⟨⟨rfl, fun β => (GOk.plain (op_bin bin_add (opt 0 rfl) (opc (ic (by decide)))) rfl)⟩, ⟨rfl, fun β => (GOk.drop _ (GOk.plain (op_move (opt 0 rfl)) rfl))⟩, trivial⟩
                clear h
                intro β a w h
                change SatL c [.slot 5 (eqVP p11), .slot 6 (eqVP p12), .slot 7 (eqVP p13), .slot 47 (slVP S_law04_Ask.ck a_1), .slot 48 (intVP .i64 (a_1.length : Int)), .slot 49 (intVP .i64 (IntKind.wrap .i64 (x47 + 1))), .res (Log_e p11 y40), .res (Log_e p12 r61.2), .res (RLog_e p13 r62.2)] a w at h
                clear β
                obtain rfl := Option.some.inj hF
                exact ⟨rfl, h.sub [0, 1, 2, 3, 4, 5, 6, 7, 8] (by rfl)⟩
              · replace hF := ff_of hb58 hF
                replace h := h.sub [0, 1, 2, 3, 4, 5, 7, 8, 9] (by rfl)
                change SatL c [.slot 5 (eqVP p11), .slot 6 (eqVP p12), .slot 7 (eqVP p13), .slot 47 (slVP S_law04_Ask.ck a_1), .slot 48 (intVP .i64 (a_1.length : Int)), .slot 49 (intVP .i64 x47), .res (Log_e p11 y40), .res (Log_e p12 x48), .res (RLog_e p13 x49)] a w at h
                refine wp_exit ?_
                obtain rfl := Option.some.inj hF
                exact ⟨exit_ne _, rfl, h.sub [0, 1, 2, 6, 7, 8] (by rfl)⟩
            · clear hl64
              intro e a w hq
              cases cr63 with
              | ret r65 =>
                obtain ⟨rfl, hq⟩ := hq
                obtain rfl := Option.some.inj hF
                exact ⟨.inl rfl, hq⟩
              | next s66 =>
                obtain ⟨y67, y68, y69⟩ := s66
                obtain ⟨rfl, h⟩ := hq
                change SatL c [.slot 5 (eqVP p11), .slot 6 (eqVP p12), .slot 7 (eqVP p13), .res (Log_e p11 y40), .res (Log_e p12 y68), .res (RLog_e p13 y69)] a w at h
                refine inBlock_at ?_
                show Code.wp Tryd.prog _ _ a w
                refine wp_seq ?_
                obtain ⟨r70, hr70, hF⟩ := bind_some hF
                refine region_do (n := 100) [.slot 66 100000 100000 (fun _ _ => (eqVP p12)),
      .slot 67 100000 100000 (fun _ _ => (intVP .i64 r70)),
      .res 100000 100000 (fun _ _ => (Log_e p12 y68)),
      .slot 12 100000 100000 (fun _ _ => (intVP .i64 r70))] [0, 1, 1, 2] [⟨[1], [], [6], [], some 66⟩, ⟨[6], [4], [7, 8], [0], some 67⟩, ⟨[7], [], [9], [0, 1], some 12⟩] [0, 1, 2, 9, 3, 5, 8] mixed hn hG h (by kernel_rfl) ?_ ?_
                · exact ⟨⟨rfl, fun β => (GOk.plain (op_move (opt 0 rfl)) rfl)⟩, ⟨rfl, fun β => (GOk.plain (op_call Tryd.call15 (digest_Log_Count_oke hr70) ⟨(opt 0 rfl), trivial⟩) rfl)⟩, ⟨rfl, fun β => (GOk.plain (op_assign (opt 0 rfl)) rfl)⟩, trivial⟩
                clear h
                intro β a w h
                change SatL c [.slot 5 (eqVP p11), .slot 6 (eqVP p12), .slot 7 (eqVP p13), .slot 12 (intVP .i64 r70), .res (Log_e p11 y40), .res (RLog_e p13 y69), .res (Log_e p12 y68)] a w at h
                clear β
                show Code.wp Tryd.prog _ _ a w
                refine wp_seq ?_
                obtain ⟨Kr71, hKr71, hJr71⟩ := joinAll_some hF
                refine region_do (n := 100) [.slot 68 100000 100000 (fun _ _ => (eqVP p11)),
      .slot 69 100000 100000 (fun _ _ => (eqVP p12)),
      .slot 70 100000 100000 (fun _ _ => (tupVP [])),
      .res 100000 100000 (fun _ _ => (RP.ex fun l => RP.sep (RP.is (Kr71 l)) (Log_e p11 l))),
      .res 100000 100000 (fun _ _ => (Log_e p12 y68))] [0, 1, 2, 2, 2] [⟨[0], [], [7], [], some 68⟩, ⟨[1], [], [8], [0], some 69⟩, ⟨[7, 8], [4, 6], [9, 10, 11], [0, 1], some 70⟩] [0, 1, 2, 3, 5, 10, 11] mixed hn hG h (by kernel_rfl) ?_ ?_
                · exact ⟨⟨rfl, fun β => (GOk.plain (op_move (opt 0 rfl)) rfl)⟩, ⟨rfl, fun β => (GOk.plain (op_move (opt 0 rfl)) rfl)⟩, ⟨rfl, fun β => (GOk.plain (op_call Tryd.call23 (digest_Log_Join_ok hJr71) ⟨(opt 0 rfl), (opt 1 rfl), trivial⟩) rfl)⟩, trivial⟩
                clear h
                intro β a w h
                change SatL c [.slot 5 (eqVP p11), .slot 6 (eqVP p12), .slot 7 (eqVP p13), .slot 12 (intVP .i64 r70), .res (RLog_e p13 y69), .res (RP.ex fun l => RP.sep (RP.is (Kr71 l)) (Log_e p11 l)), .res (Log_e p12 y68)] a w at h
                clear β
                obtain ⟨r71, h⟩ := h.ex 5 rfl
                replace h := h.sep 5 rfl
                have hF := hKr71 r71 (h.isp 5 rfl (fun _ _ _ q => q.2))
                replace h := h.sub [0, 1, 2, 3, 4, 7, 6] (by rfl)
                change SatL c [.slot 5 (eqVP p11), .slot 6 (eqVP p12), .slot 7 (eqVP p13), .slot 12 (intVP .i64 r70), .res (RLog_e p13 y69), .res (Log_e p11 r71), .res (Log_e p12 y68)] a w at h
                show Code.wp Tryd.prog _ _ a w
                refine wp_seq ?_
                replace h := h.snoc Log_nil
                replace h := h.sub [0, 1, 2, 3, 4, 5, 6, 7] (by rfl)
                change SatL c [.slot 5 (eqVP p11), .slot 6 (eqVP p12), .slot 7 (eqVP p13), .slot 12 (intVP .i64 r70), .res (RLog_e p13 y69), .res (Log_e p11 r71), .res (Log_e p12 y68), .res (Log_e (.pointer none) none)] a w at h
                obtain ⟨Kr72, hKr72, hJr72⟩ := joinAll_some hF
                refine region_do (n := 100) [.slot 71 100000 100000 (fun _ _ => (eqVP p11)),
      .slot 72 100000 100000 (fun _ _ => (tupVP [])),
      .res 100000 100000 (fun _ _ => (RP.ex fun l => RP.sep (RP.is (Kr72 l)) (Log_e p11 l))),
      .res 100000 100000 (fun _ _ => (Log_e (.pointer none) none))] [0, 1, 1, 1] [⟨[0], [], [8], [], some 71⟩, ⟨[8], [5, 7], [9, 10, 11], [0], some 72⟩] [0, 1, 2, 3, 4, 6, 10, 11] mixed hn hG h (by kernel_rfl) ?_ ?_
                · exact ⟨⟨rfl, fun β => (GOk.plain (op_move (opt 0 rfl)) rfl)⟩, ⟨rfl, fun β => (GOk.plain (op_call Tryd.call23 (digest_Log_Join_ok hJr72) ⟨(opt 0 rfl), (opc (ec _)), trivial⟩) rfl)⟩, trivial⟩
                clear h
                intro β a w h
                change SatL c [.slot 5 (eqVP p11), .slot 6 (eqVP p12), .slot 7 (eqVP p13), .slot 12 (intVP .i64 r70), .res (RLog_e p13 y69), .res (Log_e p12 y68), .res (RP.ex fun l => RP.sep (RP.is (Kr72 l)) (Log_e p11 l)), .res (Log_e (.pointer none) none)] a w at h
                clear β
                obtain ⟨r72, h⟩ := h.ex 6 rfl
                replace h := h.sep 6 rfl
                have hF := hKr72 r72 (h.isp 6 rfl (fun _ _ _ q => q.2))
                replace h := h.sub [0, 1, 2, 3, 4, 5, 8, 7] (by rfl)
                change SatL c [.slot 5 (eqVP p11), .slot 6 (eqVP p12), .slot 7 (eqVP p13), .slot 12 (intVP .i64 r70), .res (RLog_e p13 y69), .res (Log_e p12 y68), .res (Log_e p11 r72), .res (Log_e (.pointer none) none)] a w at h
                show Code.wp Tryd.prog _ _ a w
                refine wp_seq ?_
                refine region_do (n := 100) [.slot 13 100000 100000 (fun _ _ => (eqVP (.pointer none)))] [0] [⟨[], [], [8], [], some 13⟩] [0, 1, 2, 3, 8, 4, 5, 6, 7] mixed hn hG h (by kernel_rfl) ?_ ?_
                · exact ⟨⟨rfl, fun β => (GOk.plain (op_assign (opc (ec _))) rfl)⟩, trivial⟩
                clear h
                intro β a w h
                change SatL c [.slot 5 (eqVP p11), .slot 6 (eqVP p12), .slot 7 (eqVP p13), .slot 12 (intVP .i64 r70), .slot 13 (eqVP (.pointer none)), .res (RLog_e p13 y69), .res (Log_e p12 y68), .res (Log_e p11 r72), .res (Log_e (.pointer none) none)] a w at h
                clear β
                show Code.wp Tryd.prog _ _ a w
                refine wp_seq ?_
                obtain ⟨Kr73, hKr73, hJr73⟩ := joinAll_some hF
                refine region_do (n := 100) [.slot 73 100000 100000 (fun _ _ => (eqVP (.pointer none))),
      .slot 74 100000 100000 (fun _ _ => (eqVP p12)),
      .slot 75 100000 100000 (fun _ _ => (tupVP [])),
      .res 100000 100000 (fun _ _ => (RP.ex fun l => RP.sep (RP.is (Kr73 l)) (Log_e (.pointer none) l))),
      .res 100000 100000 (fun _ _ => (Log_e p12 y68))] [0, 1, 2, 2, 2] [⟨[4], [], [9], [], some 73⟩, ⟨[1], [], [10], [0], some 74⟩, ⟨[9, 10], [8, 6], [11, 12, 13], [0, 1], some 75⟩] [0, 1, 2, 3, 5, 7, 12, 13] mixed hn hG h (by kernel_rfl) ?_ ?_
                · exact ⟨⟨rfl, fun β => (GOk.plain (op_move (opt 0 rfl)) rfl)⟩, ⟨rfl, fun β => (GOk.plain (op_move (opt 0 rfl)) rfl)⟩, ⟨rfl, fun β => (GOk.plain (op_call Tryd.call23 (digest_Log_Join_ok hJr73) ⟨(opt 0 rfl), (opt 1 rfl), trivial⟩) rfl)⟩, trivial⟩
                clear h
                intro β a w h
                change SatL c [.slot 5 (eqVP p11), .slot 6 (eqVP p12), .slot 7 (eqVP p13), .slot 12 (intVP .i64 r70), .res (RLog_e p13 y69), .res (Log_e p11 r72), .res (RP.ex fun l => RP.sep (RP.is (Kr73 l)) (Log_e (.pointer none) l)), .res (Log_e p12 y68)] a w at h
                clear β
                obtain ⟨r73, h⟩ := h.ex 6 rfl
                replace h := h.sep 6 rfl
                have hF := hKr73 r73 (h.isp 6 rfl (fun _ _ _ q => q.2))
                replace h := h.sub [0, 1, 2, 3, 4, 5, 8, 7] (by rfl)
                change SatL c [.slot 5 (eqVP p11), .slot 6 (eqVP p12), .slot 7 (eqVP p13), .slot 12 (intVP .i64 r70), .res (RLog_e p13 y69), .res (Log_e p11 r72), .res (Log_e (.pointer none) r73), .res (Log_e p12 y68)] a w at h
                show Code.wp Tryd.prog _ _ a w
                refine wp_seq ?_
                obtain ⟨s74, hs75, hF⟩ := bind_some hF
                rw [hs75] at h
                obtain ⟨h76, h⟩ := h.ex 4 rfl
                obtain ⟨h77, h⟩ := h.ex 4 rfl
                have hp := h.isp 4 rfl (fun Φ f w q => RLog_lp Φ f w q)
                replace h := h.slotc 2 rfl (V' := lpVP p13 0) (fun _ _ h => eq_lp h hp)
                replace h := h.sep (R := lb p13 41 [one (eqVP h76), one (eqVP h77)]) (S := (RP.sep (acc h76 9 1 strC s74.f_Inputs) (mapR h77 arrK (fun l => l.length = 32) (fun u y => acc u 9 1 strC y) s74.f_Digests))) 4 rfl
                replace h := h.sep (R := acc h76 9 1 strC s74.f_Inputs) (S := (mapR h77 arrK (fun l => l.length = 32) (fun u y => acc u 9 1 strC y) s74.f_Digests)) 8 rfl
                replace h := h.sub [0, 1, 2, 3, 4, 5, 6, 7, 8, 9] (by rfl)
                change SatL c [.slot 5 (eqVP p11), .slot 6 (eqVP p12), .slot 7 (lpVP p13 0), .slot 12 (intVP .i64 r70), .res (lb p13 41 [one (eqVP h76), one (eqVP h77)]), .res (Log_e p11 r72), .res (Log_e (.pointer none) r73), .res (Log_e p12 y68), .res (acc h76 9 1 strC s74.f_Inputs), .res (mapR h77 arrK (fun l => l.length = 32) (fun u y => acc u 9 1 strC y) s74.f_Digests)] a w at h
                obtain ⟨r78, hr78, hF⟩ := bind_some hF
                refine wp_cut (fun a w => ∃ (x83 : Bool), law04_DigestJoins.j2 x83 = some r ∧ SatL c [.slot 4 (boolVP x83), .res (Log_e (.pointer none) r73), .res (Log_e p11 r72), .res (Log_e p12 y68)] a w) ?_ ?_
                · rcases Bool.eq_false_or_eq_true r78 with hb84 | hb84
                  · replace hF := tt_of hb84 hF
                    obtain ⟨r79, hr79, hF⟩ := bind_some hF
                    rcases Bool.eq_false_or_eq_true (decide (r79 = (s74.f_Inputs.length : Int))) with hb85 | hb85
                    · replace hF := tt_of hb85 hF
                      obtain ⟨r80, hr80, hF⟩ := bind_some hF
                      obtain ⟨r81, hr81, hF⟩ := bind_some hF
                      rcases Bool.eq_false_or_eq_true (r80 == r81) with hb86 | hb86
                      · replace hF := tt_of hb86 hF
                        obtain ⟨r82, hr82, hF⟩ := bind_some hF
                        refine region_do (n := 100) [.slot 76 100000 100000 (fun _ _ => (boolVP r78)),
      .slot 77 100000 100000 (fun _ _ => (boolVP r78)),
      .slot 78 100000 100000 (fun _ _ => (eqVP p11)),
      .slot 79 100000 100000 (fun _ _ => (intVP .i64 r79)),
      .res 100000 100000 (fun _ _ => (Log_e p11 r72)),
      .slot 80 100000 100000 (fun _ _ => (lpVP p13 0)),
      .slot 81 100000 100000 (fun _ _ => (lpVP p13 0)),
      .slot 82 100000 100000 (fun _ _ => (lpVP p13 0)),
      .slot 83 100000 100000 (fun _ _ => (eqVP h76)),
      .slot 84 100000 100000 (fun _ _ => (intVP .i64 (s74.f_Inputs.length : Int))),
      .slot 85 100000 100000 (fun _ _ => (boolVP (decide (r79 = (s74.f_Inputs.length : Int))))),
      .slot 86 100000 100000 (fun _ _ => (boolVP (decide (r79 = (s74.f_Inputs.length : Int))))),
      .slot 87 100000 100000 (fun _ _ => (boolVP (decide (r79 = (s74.f_Inputs.length : Int))))),
      .slot 88 100000 100000 (fun _ _ => (eqVP p11)),
      .slot 89 100000 100000 (fun _ _ => (boolVP r80)),
      .res 100000 100000 (fun _ _ => (Log_e p11 r72)),
      .slot 90 100000 100000 (fun _ _ => (lpVP p13 0)),
      .slot 91 100000 100000 (fun _ _ => (boolVP r81)),
      .res 100000 100000 (fun _ _ => (lb p13 41 [one (eqVP h76), one (eqVP h77)])),
      .res 100000 100000 (fun _ _ => (acc h76 9 1 strC s74.f_Inputs)),
      .res 100000 100000 (fun _ _ => (mapR h77 arrK (fun l => l.length = 32) (fun u y => acc u 9 1 strC y) s74.f_Digests)),
      .slot 92 100000 100000 (fun _ _ => (boolVP (r80 == r81))),
      .slot 93 100000 100000 (fun _ _ => (boolVP (r80 == r81))),
      .slot 94 100000 100000 (fun _ _ => (boolVP (r80 == r81))),
      .slot 95 100000 100000 (fun _ _ => (eqVP p12)),
      .slot 96 100000 100000 (fun _ _ => (intVP .i64 r82)),
      .res 100000 100000 (fun _ _ => (Log_e p12 y68)),
      .slot 97 100000 100000 (fun _ _ => (intVP .i64 r70)),
      .slot 98 100000 100000 (fun _ _ => (boolVP (decide (r82 = r70)))),
      .slot 99 100000 100000 (fun _ _ => (boolVP (decide (r82 = r70)))),
      .slot 4 100000 100000 (fun _ _ => (boolVP (decide (r82 = r70))))] [0, 1, 2, 3, 3, 4, 5, 6, 7, 8, 9, 10, 11, 12, 13, 13, 14, 15, 15, 15, 15, 16, 17, 18, 19, 20, 20, 21, 22, 23, 24] [⟨[], [], [10], [], some 76⟩, ⟨[10], [], [11], [0], some 77⟩, ⟨[11, 0], [], [12], [0, 1], some 78⟩, ⟨[11, 12], [5], [13, 14], [0, 1, 2], some 79⟩, ⟨[11, 2], [], [15], [0, 1], some 80⟩, ⟨[11, 15], [], [16], [0, 1, 4], some 81⟩, ⟨[11, 16], [], [17], [0, 1, 4, 5], some 82⟩, ⟨[11, 17, 4], [], [18], [0, 1, 4, 5, 6], some 83⟩, ⟨[11, 18, 8], [], [19], [0, 1, 4, 5, 6, 7], some 84⟩, ⟨[11, 13, 19], [], [20], [0, 1, 2, 3, 4, 5, 6, 7, 8], some 85⟩, ⟨[11, 20], [], [21], [0, 1, 2, 3, 4, 5, 6, 7, 8, 9], some 86⟩, ⟨[21], [], [22], [0, 1, 2, 3, 4, 5, 6, 7, 8, 9, 10], some 87⟩, ⟨[22, 0], [], [23], [0, 1, 2, 3, 4, 5, 6, 7, 8, 9, 10, 11], some 88⟩, ⟨[22, 23], [14], [24, 25], [0, 1, 2, 3, 4, 5, 6, 7, 8, 9, 10, 11, 12], some 89⟩, ⟨[22, 2], [], [26], [0, 1, 2, 3, 4, 5, 6, 7, 8, 9, 10, 11], some 90⟩, ⟨[22, 26], [4, 8, 9], [27, 28, 29, 30], [0, 1, 2, 3, 4, 5, 6, 7, 8, 9, 10, 11, 12, 13, 14], some 91⟩, ⟨[22, 24, 27], [], [31], [0, 1, 2, 3, 4, 5, 6, 7, 8, 9, 10, 11, 12, 13, 14, 15], some 92⟩, ⟨[22, 31], [], [32], [0, 1, 2, 3, 4, 5, 6, 7, 8, 9, 10, 11, 12, 13, 14, 15, 16], some 93⟩, ⟨[32], [], [33], [0, 1, 2, 3, 4, 5, 6, 7, 8, 9, 10, 11, 12, 13, 14, 15, 16, 17], some 94⟩, ⟨[33, 1], [], [34], [0, 1, 2, 3, 4, 5, 6, 7, 8, 9, 10, 11, 12, 13, 14, 15, 16, 17, 18], some 95⟩, ⟨[33, 34], [7], [35, 36], [0, 1, 2, 3, 4, 5, 6, 7, 8, 9, 10, 11, 12, 13, 14, 15, 16, 17, 18, 19], some 96⟩, ⟨[33, 3], [], [37], [0, 1, 2, 3, 4, 5, 6, 7, 8, 9, 10, 11, 12, 13, 14, 15, 16, 17, 18], some 97⟩, ⟨[33, 35, 37], [], [38], [0, 1, 2, 3, 4, 5, 6, 7, 8, 9, 10, 11, 12, 13, 14, 15, 16, 17, 18, 19, 20, 21], some 98⟩, ⟨[33, 38], [], [39], [0, 1, 2, 3, 4, 5, 6, 7, 8, 9, 10, 11, 12, 13, 14, 15, 16, 17, 18, 19, 20, 21, 22], some 99⟩, ⟨[39], [], [40], [0, 1, 2, 3, 4, 5, 6, 7, 8, 9, 10, 11, 12, 13, 14, 15, 16, 17, 18, 19, 20, 21, 22, 23], some 4⟩] [40, 6, 25, 36] mixed hn hG h (by kernel_rfl) ?_ ?_
                        · exact ⟨⟨rfl, fun β => (GOk.plain (op_call Tryd.call11 (law04_awake_ok hr78) trivial) rfl)⟩, ⟨rfl, fun β => (GOk.plain (op_move (opt 0 rfl)) rfl)⟩, ⟨rfl, fun β => (GOk.on_eq hb84 rfl rfl rfl (op_move (opt 0 rfl)))⟩, ⟨rfl, fun β => (GOk.on_eq hb84 rfl rfl rfl (op_call Tryd.call15 (digest_Log_Count_oke hr79) ⟨(opt 0 rfl), trivial⟩))⟩, ⟨rfl, fun β => (GOk.on_eq hb84 rfl rfl rfl (op_move (opt 0 rfl)))⟩, ⟨rfl, fun β => (GOk.on_eq hb84 rfl rfl rfl (op_nilCheck (opt 0 rfl) (ptr_lp _ _)))⟩, ⟨rfl, fun β => (GOk.on_eq hb84 rfl rfl rfl (op_fieldAddr_lbm (p := p13) (n := 1) 0 0 Tryd.underlying41 rfl Tryd.sizeOf22 (by decide) (opt 0 rfl) rfl))⟩, ⟨rfl, fun β => (GOk.on_eq hb84 rfl rfl rfl (op_load_lb1 [] [one (eqVP h77)] 1 Tryd.isAgg22 (opt 0 rfl) rfl rfl))⟩, ⟨rfl, fun β => (GOk.on_eq hb84 rfl rfl rfl (op_len_sl Tryd.underlying22 (opacc 0 1 rfl rfl)))⟩, ⟨rfl, fun β => (GOk.on_eq hb84 rfl rfl rfl (op_bin bin_eql (opt 0 rfl) (opt 1 rfl)))⟩, ⟨rfl, fun β => (GOk.plain (op_pick_t hb84 (opt 0 rfl) (opt 1 rfl)) rfl)⟩, ⟨rfl, fun β => (GOk.plain (op_move (opt 0 rfl)) rfl)⟩, ⟨rfl, fun β => (GOk.on_eq hb85 rfl rfl rfl (op_move (opt 0 rfl)))⟩, ⟨rfl, fun β => (GOk.on_eq hb85 rfl rfl rfl (op_call Tryd.call16 (digest_Log_Clash_oke hr80) ⟨(opt 0 rfl), trivial⟩))⟩, ⟨rfl, fun β => (GOk.on_eq hb85 rfl rfl rfl (op_move (opt 0 rfl)))⟩, ⟨rfl, fun β => (GOk.on_eq hb85 rfl rfl rfl (op_call Tryd.call21 (ref04_Log_Clash_oku hr81) ⟨(lp_eqo 0 rfl), trivial⟩))⟩, ⟨rfl, fun β => (GOk.on_eq hb85 rfl rfl rfl (op_bin (bin_beql Tryd.underlying4) (opt 0 rfl) (opt 1 rfl)))⟩, ⟨rfl, fun β => (GOk.plain (op_pick_t hb85 (opt 0 rfl) (opt 1 rfl)) rfl)⟩, ⟨rfl, fun β => (GOk.plain (op_move (opt 0 rfl)) rfl)⟩, ⟨rfl, fun β => (GOk.on_eq hb86 rfl rfl rfl (op_move (opt 0 rfl)))⟩, ⟨rfl, fun β => (GOk.on_eq hb86 rfl rfl rfl (op_call Tryd.call15 (digest_Log_Count_oke hr82) ⟨(opt 0 rfl), trivial⟩))⟩, ⟨rfl, fun β => (GOk.on_eq hb86 rfl rfl rfl (op_move (opt 0 rfl)))⟩, ⟨rfl, fun β => (GOk.on_eq hb86 rfl rfl rfl (op_bin bin_eql (opt 0 rfl) (opt 1 rfl)))⟩, ⟨rfl, fun β => (GOk.plain (op_pick_t hb86 (opt 0 rfl) (opt 1 rfl)) rfl)⟩, ⟨rfl, fun β => (GOk.plain (op_assign (opt 0 rfl)) rfl)⟩, trivial⟩
                        clear h
                        intro β a w h
                        change SatL c [.slot 4 (boolVP (decide (r82 = r70))), .res (Log_e (.pointer none) r73), .res (Log_e p11 r72), .res (Log_e p12 y68)] a w at h
                        clear β
                        exact ⟨decide (r82 = r70), hF, h.sub [0, 1, 2, 3] (by rfl)⟩
                      · replace hF := ff_of hb86 hF
                        refine region_do (n := 100) [.slot 76 100000 100000 (fun _ _ => (boolVP r78)),
      .slot 77 100000 100000 (fun _ _ => (boolVP r78)),
      .slot 78 100000 100000 (fun _ _ => (eqVP p11)),
      .slot 79 100000 100000 (fun _ _ => (intVP .i64 r79)),
      .res 100000 100000 (fun _ _ => (Log_e p11 r72)),
      .slot 80 100000 100000 (fun _ _ => (lpVP p13 0)),
      .slot 81 100000 100000 (fun _ _ => (lpVP p13 0)),
      .slot 82 100000 100000 (fun _ _ => (lpVP p13 0)),
      .slot 83 100000 100000 (fun _ _ => (eqVP h76)),
      .slot 84 100000 100000 (fun _ _ => (intVP .i64 (s74.f_Inputs.length : Int))),
      .slot 85 100000 100000 (fun _ _ => (boolVP (decide (r79 = (s74.f_Inputs.length : Int))))),
      .slot 86 100000 100000 (fun _ _ => (boolVP (decide (r79 = (s74.f_Inputs.length : Int))))),
      .slot 87 100000 100000 (fun _ _ => (boolVP (decide (r79 = (s74.f_Inputs.length : Int))))),
      .slot 88 100000 100000 (fun _ _ => (eqVP p11)),
      .slot 89 100000 100000 (fun _ _ => (boolVP r80)),
      .res 100000 100000 (fun _ _ => (Log_e p11 r72)),
      .slot 90 100000 100000 (fun _ _ => (lpVP p13 0)),
      .slot 91 100000 100000 (fun _ _ => (boolVP r81)),
      .res 100000 100000 (fun _ _ => (lb p13 41 [one (eqVP h76), one (eqVP h77)])),
      .res 100000 100000 (fun _ _ => (acc h76 9 1 strC s74.f_Inputs)),
      .res 100000 100000 (fun _ _ => (mapR h77 arrK (fun l => l.length = 32) (fun u y => acc u 9 1 strC y) s74.f_Digests)),
      .slot 92 100000 100000 (fun _ _ => (boolVP (r80 == r81))),
      .slot 93 100000 100000 (fun _ _ => (boolVP (r80 == r81))),
      .slot 94 100000 100000 (fun _ _ => (boolVP (r80 == r81))),
      .slot 95 100000 100000 (fun _ _ => (eqVP undef)),
      .slot 96 100000 100000 (fun _ _ => (eqVP undef)),
      .slot 97 100000 100000 (fun _ _ => (eqVP undef)),
      .slot 98 100000 100000 (fun _ _ => (eqVP undef)),
      .slot 99 100000 100000 (fun _ _ => (boolVP false)),
      .slot 4 100000 100000 (fun _ _ => (boolVP false))] [0, 1, 2, 3, 3, 4, 5, 6, 7, 8, 9, 10, 11, 12, 13, 13, 14, 15, 15, 15, 15, 16, 17, 18, 19, 20, 21, 22, 23, 24] [⟨[], [], [10], [], some 76⟩, ⟨[10], [], [11], [0], some 77⟩, ⟨[11, 0], [], [12], [0, 1], some 78⟩, ⟨[11, 12], [5], [13, 14], [0, 1, 2], some 79⟩, ⟨[11, 2], [], [15], [0, 1], some 80⟩, ⟨[11, 15], [], [16], [0, 1, 4], some 81⟩, ⟨[11, 16], [], [17], [0, 1, 4, 5], some 82⟩, ⟨[11, 17, 4], [], [18], [0, 1, 4, 5, 6], some 83⟩, ⟨[11, 18, 8], [], [19], [0, 1, 4, 5, 6, 7], some 84⟩, ⟨[11, 13, 19], [], [20], [0, 1, 2, 3, 4, 5, 6, 7, 8], some 85⟩, ⟨[11, 20], [], [21], [0, 1, 2, 3, 4, 5, 6, 7, 8, 9], some 86⟩, ⟨[21], [], [22], [0, 1, 2, 3, 4, 5, 6, 7, 8, 9, 10], some 87⟩, ⟨[22, 0], [], [23], [0, 1, 2, 3, 4, 5, 6, 7, 8, 9, 10, 11], some 88⟩, ⟨[22, 23], [14], [24, 25], [0, 1, 2, 3, 4, 5, 6, 7, 8, 9, 10, 11, 12], some 89⟩, ⟨[22, 2], [], [26], [0, 1, 2, 3, 4, 5, 6, 7, 8, 9, 10, 11], some 90⟩, ⟨[22, 26], [4, 8, 9], [27, 28, 29, 30], [0, 1, 2, 3, 4, 5, 6, 7, 8, 9, 10, 11, 12, 13, 14], some 91⟩, ⟨[22, 24, 27], [], [31], [0, 1, 2, 3, 4, 5, 6, 7, 8, 9, 10, 11, 12, 13, 14, 15], some 92⟩, ⟨[22, 31], [], [32], [0, 1, 2, 3, 4, 5, 6, 7, 8, 9, 10, 11, 12, 13, 14, 15, 16], some 93⟩, ⟨[32], [], [33], [0, 1, 2, 3, 4, 5, 6, 7, 8, 9, 10, 11, 12, 13, 14, 15, 16, 17], some 94⟩, ⟨[33], [], [34], [0, 1, 2, 3, 4, 5, 6, 7, 8, 9, 10, 11, 12, 13, 14, 15, 16, 17, 18], some 95⟩, ⟨[33], [], [35], [0, 1, 2, 3, 4, 5, 6, 7, 8, 9, 10, 11, 12, 13, 14, 15, 16, 17, 18, 19], some 96⟩, ⟨[33], [], [36], [0, 1, 2, 3, 4, 5, 6, 7, 8, 9, 10, 11, 12, 13, 14, 15, 16, 17, 18], some 97⟩, ⟨[33], [], [37], [0, 1, 2, 3, 4, 5, 6, 7, 8, 9, 10, 11, 12, 13, 14, 15, 16, 17, 18, 19, 20, 21], some 98⟩, ⟨[33], [], [38], [0, 1, 2, 3, 4, 5, 6, 7, 8, 9, 10, 11, 12, 13, 14, 15, 16, 17, 18, 19, 20, 21, 22], some 99⟩, ⟨[38], [], [39], [0, 1, 2, 3, 4, 5, 6, 7, 8, 9, 10, 11, 12, 13, 14, 15, 16, 17, 18, 19, 20, 21, 22, 23], some 4⟩] [39, 6, 7, 25] mixed hn hG h (by kernel_rfl) ?_ ?_
                        · exact ⟨⟨rfl, fun β => (GOk.plain (op_call Tryd.call11 (law04_awake_ok hr78) trivial) rfl)⟩, ⟨rfl, fun β => (GOk.plain (op_move (opt 0 rfl)) rfl)⟩, ⟨rfl, fun β => (GOk.on_eq hb84 rfl rfl rfl (op_move (opt 0 rfl)))⟩, ⟨rfl, fun β => (GOk.on_eq hb84 rfl rfl rfl (op_call Tryd.call15 (digest_Log_Count_oke hr79) ⟨(opt 0 rfl), trivial⟩))⟩, ⟨rfl, fun β => (GOk.on_eq hb84 rfl rfl rfl (op_move (opt 0 rfl)))⟩, ⟨rfl, fun β => (GOk.on_eq hb84 rfl rfl rfl (op_nilCheck (opt 0 rfl) (ptr_lp _ _)))⟩, ⟨rfl, fun β => (GOk.on_eq hb84 rfl rfl rfl (op_fieldAddr_lbm (p := p13) (n := 1) 0 0 Tryd.underlying41 rfl Tryd.sizeOf22 (by decide) (opt 0 rfl) rfl))⟩, ⟨rfl, fun β => (GOk.on_eq hb84 rfl rfl rfl (op_load_lb1 [] [one (eqVP h77)] 1 Tryd.isAgg22 (opt 0 rfl) rfl rfl))⟩, ⟨rfl, fun β => (GOk.on_eq hb84 rfl rfl rfl (op_len_sl Tryd.underlying22 (opacc 0 1 rfl rfl)))⟩, ⟨rfl, fun β => (GOk.on_eq hb84 rfl rfl rfl (op_bin bin_eql (opt 0 rfl) (opt 1 rfl)))⟩, ⟨rfl, fun β => (GOk.plain (op_pick_t hb84 (opt 0 rfl) (opt 1 rfl)) rfl)⟩, ⟨rfl, fun β => (GOk.plain (op_move (opt 0 rfl)) rfl)⟩, ⟨rfl, fun β => (GOk.on_eq hb85 rfl rfl rfl (op_move (opt 0 rfl)))⟩, ⟨rfl, fun β => (GOk.on_eq hb85 rfl rfl rfl (op_call Tryd.call16 (digest_Log_Clash_oke hr80) ⟨(opt 0 rfl), trivial⟩))⟩, ⟨rfl, fun β => (GOk.on_eq hb85 rfl rfl rfl (op_move (opt 0 rfl)))⟩, ⟨rfl, fun β => (GOk.on_eq hb85 rfl rfl rfl (op_call Tryd.call21 (ref04_Log_Clash_oku hr81) ⟨(lp_eqo 0 rfl), trivial⟩))⟩, ⟨rfl, fun β => (GOk.on_eq hb85 rfl rfl rfl (op_bin (bin_beql Tryd.underlying4) (opt 0 rfl) (opt 1 rfl)))⟩, ⟨rfl, fun β => (GOk.plain (op_pick_t hb85 (opt 0 rfl) (opt 1 rfl)) rfl)⟩, ⟨rfl, fun β => (GOk.plain (op_move (opt 0 rfl)) rfl)⟩, ⟨rfl, fun β => (GOk.off_v (want := true) hb86 rfl rfl rfl rfl)⟩, ⟨rfl, fun β => (GOk.off_v (want := true) hb86 rfl rfl rfl rfl)⟩, ⟨rfl, fun β => (GOk.off_v (want := true) hb86 rfl rfl rfl rfl)⟩, ⟨rfl, fun β => (GOk.off_v (want := true) hb86 rfl rfl rfl rfl)⟩, ⟨rfl, fun β => (GOk.plain (op_pick_f hb86 (opt 0 rfl) (opc (bc _))) rfl)⟩, ⟨rfl, fun β => (GOk.plain (op_assign (opt 0 rfl)) rfl)⟩, trivial⟩
                        clear h
                        intro β a w h
                        change SatL c [.slot 4 (boolVP false), .res (Log_e (.pointer none) r73), .res (Log_e p12 y68), .res (Log_e p11 r72)] a w at h
                        clear β
                        exact ⟨false, hF, h.sub [0, 1, 3, 2] (by rfl)⟩
                    · replace hF := ff_of hb85 hF
                      refine region_do (n := 100) [.slot 76 100000 100000 (fun _ _ => (boolVP r78)),
      .slot 77 100000 100000 (fun _ _ => (boolVP r78)),
      .slot 78 100000 100000 (fun _ _ => (eqVP p11)),
      .slot 79 100000 100000 (fun _ _ => (intVP .i64 r79)),
      .res 100000 100000 (fun _ _ => (Log_e p11 r72)),
      .slot 80 100000 100000 (fun _ _ => (lpVP p13 0)),
      .slot 81 100000 100000 (fun _ _ => (lpVP p13 0)),
      .slot 82 100000 100000 (fun _ _ => (lpVP p13 0)),
      .slot 83 100000 100000 (fun _ _ => (eqVP h76)),
      .slot 84 100000 100000 (fun _ _ => (intVP .i64 (s74.f_Inputs.length : Int))),
      .slot 85 100000 100000 (fun _ _ => (boolVP (decide (r79 = (s74.f_Inputs.length : Int))))),
      .slot 86 100000 100000 (fun _ _ => (boolVP (decide (r79 = (s74.f_Inputs.length : Int))))),
      .slot 87 100000 100000 (fun _ _ => (boolVP (decide (r79 = (s74.f_Inputs.length : Int))))),
      .slot 88 100000 100000 (fun _ _ => (eqVP undef)),
      .slot 89 100000 100000 (fun _ _ => (eqVP undef)),
      .slot 90 100000 100000 (fun _ _ => (eqVP undef)),
      .slot 91 100000 100000 (fun _ _ => (eqVP undef)),
      .slot 92 100000 100000 (fun _ _ => (eqVP undef)),
      .slot 93 100000 100000 (fun _ _ => (boolVP false)),
      .slot 94 100000 100000 (fun _ _ => (boolVP false)),
      .slot 95 100000 100000 (fun _ _ => (eqVP undef)),
      .slot 96 100000 100000 (fun _ _ => (eqVP undef)),
      .slot 97 100000 100000 (fun _ _ => (eqVP undef)),
      .slot 98 100000 100000 (fun _ _ => (eqVP undef)),
      .slot 99 100000 100000 (fun _ _ => (boolVP false)),
      .slot 4 100000 100000 (fun _ _ => (boolVP false))] [0, 1, 2, 3, 3, 4, 5, 6, 7, 8, 9, 10, 11, 12, 13, 14, 15, 16, 17, 18, 19, 20, 21, 22, 23, 24] [⟨[], [], [10], [], some 76⟩, ⟨[10], [], [11], [0], some 77⟩, ⟨[11, 0], [], [12], [0, 1], some 78⟩, ⟨[11, 12], [5], [13, 14], [0, 1, 2], some 79⟩, ⟨[11, 2], [], [15], [0, 1], some 80⟩, ⟨[11, 15], [], [16], [0, 1, 4], some 81⟩, ⟨[11, 16], [], [17], [0, 1, 4, 5], some 82⟩, ⟨[11, 17, 4], [], [18], [0, 1, 4, 5, 6], some 83⟩, ⟨[11, 18, 8], [], [19], [0, 1, 4, 5, 6, 7], some 84⟩, ⟨[11, 13, 19], [], [20], [0, 1, 2, 3, 4, 5, 6, 7, 8], some 85⟩, ⟨[11, 20], [], [21], [0, 1, 2, 3, 4, 5, 6, 7, 8, 9], some 86⟩, ⟨[21], [], [22], [0, 1, 2, 3, 4, 5, 6, 7, 8, 9, 10], some 87⟩, ⟨[22], [], [23], [0, 1, 2, 3, 4, 5, 6, 7, 8, 9, 10, 11], some 88⟩, ⟨[22], [], [24], [0, 1, 2, 3, 4, 5, 6, 7, 8, 9, 10, 11, 12], some 89⟩, ⟨[22], [], [25], [0, 1, 2, 3, 4, 5, 6, 7, 8, 9, 10, 11], some 90⟩, ⟨[22], [], [26], [0, 1, 2, 3, 4, 5, 6, 7, 8, 9, 10, 11, 12, 13, 14], some 91⟩, ⟨[22], [], [27], [0, 1, 2, 3, 4, 5, 6, 7, 8, 9, 10, 11, 12, 13, 14, 15], some 92⟩, ⟨[22], [], [28], [0, 1, 2, 3, 4, 5, 6, 7, 8, 9, 10, 11, 12, 13, 14, 15, 16], some 93⟩, ⟨[28], [], [29], [0, 1, 2, 3, 4, 5, 6, 7, 8, 9, 10, 11, 12, 13, 14, 15, 16, 17], some 94⟩, ⟨[29], [], [30], [0, 1, 2, 3, 4, 5, 6, 7, 8, 9, 10, 11, 12, 13, 14, 15, 16, 17, 18], some 95⟩, ⟨[29], [], [31], [0, 1, 2, 3, 4, 5, 6, 7, 8, 9, 10, 11, 12, 13, 14, 15, 16, 17, 18, 19], some 96⟩, ⟨[29], [], [32], [0, 1, 2, 3, 4, 5, 6, 7, 8, 9, 10, 11, 12, 13, 14, 15, 16, 17, 18], some 97⟩, ⟨[29], [], [33], [0, 1, 2, 3, 4, 5, 6, 7, 8, 9, 10, 11, 12, 13, 14, 15, 16, 17, 18, 19, 20, 21], some 98⟩, ⟨[29], [], [34], [0, 1, 2, 3, 4, 5, 6, 7, 8, 9, 10, 11, 12, 13, 14, 15, 16, 17, 18, 19, 20, 21, 22], some 99⟩, ⟨[34], [], [35], [0, 1, 2, 3, 4, 5, 6, 7, 8, 9, 10, 11, 12, 13, 14, 15, 16, 17, 18, 19, 20, 21, 22, 23], some 4⟩] [35, 6, 7, 14] mixed hn hG h (by kernel_rfl) ?_ ?_
                      · exact ⟨⟨rfl, fun β => (GOk.plain (op_call Tryd.call11 (law04_awake_ok hr78) trivial) rfl)⟩, ⟨rfl, fun β => (GOk.plain (op_move (opt 0 rfl)) rfl)⟩, ⟨rfl, fun β => (GOk.on_eq hb84 rfl rfl rfl (op_move (opt 0 rfl)))⟩, ⟨rfl, fun β => (GOk.on_eq hb84 rfl rfl rfl (op_call Tryd.call15 (digest_Log_Count_oke hr79) ⟨(opt 0 rfl), trivial⟩))⟩, ⟨rfl, fun β => (GOk.on_eq hb84 rfl rfl rfl (op_move (opt 0 rfl)))⟩, ⟨rfl, fun β => (GOk.on_eq hb84 rfl rfl rfl (op_nilCheck (opt 0 rfl) (ptr_lp _ _)))⟩, ⟨rfl, fun β => (GOk.on_eq hb84 rfl rfl rfl (op_fieldAddr_lbm (p := p13) (n := 1) 0 0 Tryd.underlying41 rfl Tryd.sizeOf22 (by decide) (opt 0 rfl) rfl))⟩, ⟨rfl, fun β => (GOk.on_eq hb84 rfl rfl rfl (op_load_lb1 [] [one (eqVP h77)] 1 Tryd.isAgg22 (opt 0 rfl) rfl rfl))⟩, ⟨rfl, fun β => (GOk.on_eq hb84 rfl rfl rfl (op_len_sl Tryd.underlying22 (opacc 0 1 rfl rfl)))⟩, ⟨rfl, fun β => (GOk.on_eq hb84 rfl rfl rfl (op_bin bin_eql (opt 0 rfl) (opt 1 rfl)))⟩, ⟨rfl, fun β => (GOk.plain (op_pick_t hb84 (opt 0 rfl) (opt 1 rfl)) rfl)⟩, ⟨rfl, fun β => (GOk.plain (op_move (opt 0 rfl)) rfl)⟩, ⟨rfl, fun β => (GOk.off_v (want := true) hb85 rfl rfl rfl rfl)⟩, ⟨rfl, fun β => (GOk.off_v (want := true) hb85 rfl rfl rfl rfl)⟩, ⟨rfl, fun β => (GOk.off_v (want := true) hb85 rfl rfl rfl rfl)⟩, ⟨rfl, fun β => (GOk.off_v (want := true) hb85 rfl rfl rfl rfl)⟩, ⟨rfl, fun β => (GOk.off_v (want := true) hb85 rfl rfl rfl rfl)⟩, ⟨rfl, fun β => (GOk.plain (op_pick_f hb85 (opt 0 rfl) (opc (bc _))) rfl)⟩, ⟨rfl, fun β => (GOk.plain (op_move (opt 0 rfl)) rfl)⟩, ⟨rfl, fun β => (GOk.off_v (want := true) rfl rfl rfl rfl rfl)⟩, ⟨rfl, fun β => (GOk.off_v (want := true) rfl rfl rfl rfl rfl)⟩, ⟨rfl, fun β => (GOk.off_v (want := true) rfl rfl rfl rfl rfl)⟩, ⟨rfl, fun β => (GOk.off_v (want := true) rfl rfl rfl rfl rfl)⟩, ⟨rfl, fun β => (GOk.plain (op_pick_f rfl (opt 0 rfl) (opc (bc _))) rfl)⟩, ⟨rfl, fun β => (GOk.plain (op_assign (opt 0 rfl)) rfl)⟩, trivial⟩
                      clear h
                      intro β a w h
                      change SatL c [.slot 4 (boolVP false), .res (Log_e (.pointer none) r73), .res (Log_e p12 y68), .res (Log_e p11 r72)] a w at h
                      clear β
                      exact ⟨false, hF, h.sub [0, 1, 3, 2] (by rfl)⟩
                  · replace hF := ff_of hb84 hF
                    refine region_do (n := 100) [.slot 76 100000 100000 (fun _ _ => (boolVP r78)),
      .slot 77 100000 100000 (fun _ _ => (boolVP r78)),
      .slot 78 100000 100000 (fun _ _ => (eqVP undef)),
      .slot 79 100000 100000 (fun _ _ => (eqVP undef)),
      .slot 80 100000 100000 (fun _ _ => (eqVP undef)),
      .slot 81 100000 100000 (fun _ _ => (eqVP undef)),
      .slot 82 100000 100000 (fun _ _ => (eqVP undef)),
      .slot 83 100000 100000 (fun _ _ => (eqVP undef)),
      .slot 84 100000 100000 (fun _ _ => (eqVP undef)),
      .slot 85 100000 100000 (fun _ _ => (eqVP undef)),
      .slot 86 100000 100000 (fun _ _ => (boolVP false)),
      .slot 87 100000 100000 (fun _ _ => (boolVP false)),
      .slot 88 100000 100000 (fun _ _ => (eqVP undef)),
      .slot 89 100000 100000 (fun _ _ => (eqVP undef)),
      .slot 90 100000 100000 (fun _ _ => (eqVP undef)),
      .slot 91 100000 100000 (fun _ _ => (eqVP undef)),
      .slot 92 100000 100000 (fun _ _ => (eqVP undef)),
      .slot 93 100000 100000 (fun _ _ => (boolVP false)),
      .slot 94 100000 100000 (fun _ _ => (boolVP false)),
      .slot 95 100000 100000 (fun _ _ => (eqVP undef)),
      .slot 96 100000 100000 (fun _ _ => (eqVP undef)),
      .slot 97 100000 100000 (fun _ _ => (eqVP undef)),
      .slot 98 100000 100000 (fun _ _ => (eqVP undef)),
      .slot 99 100000 100000 (fun _ _ => (boolVP false)),
      .slot 4 100000 100000 (fun _ _ => (boolVP false))] [0, 1, 2, 3, 4, 5, 6, 7, 8, 9, 10, 11, 12, 13, 14, 15, 16, 17, 18, 19, 20, 21, 22, 23, 24] [⟨[], [], [10], [], some 76⟩, ⟨[10], [], [11], [0], some 77⟩, ⟨[11], [], [12], [0, 1], some 78⟩, ⟨[11], [], [13], [0, 1, 2], some 79⟩, ⟨[11], [], [14], [0, 1], some 80⟩, ⟨[11], [], [15], [0, 1, 4], some 81⟩, ⟨[11], [], [16], [0, 1, 4, 5], some 82⟩, ⟨[11], [], [17], [0, 1, 4, 5, 6], some 83⟩, ⟨[11], [], [18], [0, 1, 4, 5, 6, 7], some 84⟩, ⟨[11], [], [19], [0, 1, 2, 3, 4, 5, 6, 7, 8], some 85⟩, ⟨[11], [], [20], [0, 1, 2, 3, 4, 5, 6, 7, 8, 9], some 86⟩, ⟨[20], [], [21], [0, 1, 2, 3, 4, 5, 6, 7, 8, 9, 10], some 87⟩, ⟨[21], [], [22], [0, 1, 2, 3, 4, 5, 6, 7, 8, 9, 10, 11], some 88⟩, ⟨[21], [], [23], [0, 1, 2, 3, 4, 5, 6, 7, 8, 9, 10, 11, 12], some 89⟩, ⟨[21], [], [24], [0, 1, 2, 3, 4, 5, 6, 7, 8, 9, 10, 11], some 90⟩, ⟨[21], [], [25], [0, 1, 2, 3, 4, 5, 6, 7, 8, 9, 10, 11, 12, 13, 14], some 91⟩, ⟨[21], [], [26], [0, 1, 2, 3, 4, 5, 6, 7, 8, 9, 10, 11, 12, 13, 14, 15], some 92⟩, ⟨[21], [], [27], [0, 1, 2, 3, 4, 5, 6, 7, 8, 9, 10, 11, 12, 13, 14, 15, 16], some 93⟩, ⟨[27], [], [28], [0, 1, 2, 3, 4, 5, 6, 7, 8, 9, 10, 11, 12, 13, 14, 15, 16, 17], some 94⟩, ⟨[28], [], [29], [0, 1, 2, 3, 4, 5, 6, 7, 8, 9, 10, 11, 12, 13, 14, 15, 16, 17, 18], some 95⟩, ⟨[28], [], [30], [0, 1, 2, 3, 4, 5, 6, 7, 8, 9, 10, 11, 12, 13, 14, 15, 16, 17, 18, 19], some 96⟩, ⟨[28], [], [31], [0, 1, 2, 3, 4, 5, 6, 7, 8, 9, 10, 11, 12, 13, 14, 15, 16, 17, 18], some 97⟩, ⟨[28], [], [32], [0, 1, 2, 3, 4, 5, 6, 7, 8, 9, 10, 11, 12, 13, 14, 15, 16, 17, 18, 19, 20, 21], some 98⟩, ⟨[28], [], [33], [0, 1, 2, 3, 4, 5, 6, 7, 8, 9, 10, 11, 12, 13, 14, 15, 16, 17, 18, 19, 20, 21, 22], some 99⟩, ⟨[33], [], [34], [0, 1, 2, 3, 4, 5, 6, 7, 8, 9, 10, 11, 12, 13, 14, 15, 16, 17, 18, 19, 20, 21, 22, 23], some 4⟩] [34, 5, 6, 7] mixed hn hG h (by kernel_rfl) ?_ ?_
                    · exact ⟨⟨rfl, fun β => (GOk.plain (op_call Tryd.call11 (law04_awake_ok hr78) trivial) rfl)⟩, ⟨rfl, fun β => (GOk.plain (op_move (opt 0 rfl)) rfl)⟩, ⟨rfl, fun β => (GOk.off_v (want := true) hb84 rfl rfl rfl rfl)⟩, ⟨rfl, fun β => (GOk.off_v (want := true) hb84 rfl rfl rfl rfl)⟩, ⟨rfl, fun β => (GOk.off_v (want := true) hb84 rfl rfl rfl rfl)⟩, ⟨rfl, fun β => (GOk.off_v (want := true) hb84 rfl rfl rfl rfl)⟩, ⟨rfl, fun β => (GOk.off_v (want := true) hb84 rfl rfl rfl rfl)⟩, ⟨rfl, fun β => (GOk.off_v (want := true) hb84 rfl rfl rfl rfl)⟩, ⟨rfl, fun β => (GOk.off_v (want := true) hb84 rfl rfl rfl rfl)⟩, ⟨rfl, fun β => (GOk.off_v (want := true) hb84 rfl rfl rfl rfl)⟩, ⟨rfl, fun β => (GOk.plain (op_pick_f hb84 (opt 0 rfl) (opc (bc _))) rfl)⟩, ⟨rfl, fun β => (GOk.plain (op_move (opt 0 rfl)) rfl)⟩, ⟨rfl, fun β => (GOk.off_v (want := true) rfl rfl rfl rfl rfl)⟩, ⟨rfl, fun β => (GOk.off_v (want := true) rfl rfl rfl rfl rfl)⟩, ⟨rfl, fun β => (GOk.off_v (want := true) rfl rfl rfl rfl rfl)⟩, ⟨rfl, fun β => (GOk.off_v (want := true) rfl rfl rfl rfl rfl)⟩, ⟨rfl, fun β => (GOk.off_v (want := true) rfl rfl rfl rfl rfl)⟩, ⟨rfl, fun β => (GOk.plain (op_pick_f rfl (opt 0 rfl) (opc (bc _))) rfl)⟩, ⟨rfl, fun β => (GOk.plain (op_move (opt 0 rfl)) rfl)⟩, ⟨rfl, fun β => (GOk.off_v (want := true) rfl rfl rfl rfl rfl)⟩, ⟨rfl, fun β => (GOk.off_v (want := true) rfl rfl rfl rfl rfl)⟩, ⟨rfl, fun β => (GOk.off_v (want := true) rfl rfl rfl rfl rfl)⟩, ⟨rfl, fun β => (GOk.off_v (want := true) rfl rfl rfl rfl rfl)⟩, ⟨rfl, fun β => (GOk.plain (op_pick_f rfl (opt 0 rfl) (opc (bc _))) rfl)⟩, ⟨rfl, fun β => (GOk.plain (op_assign (opt 0 rfl)) rfl)⟩, trivial⟩
                    clear h
                    intro β a w h
                    change SatL c [.slot 4 (boolVP false), .res (Log_e p11 r72), .res (Log_e (.pointer none) r73), .res (Log_e p12 y68)] a w at h
                    clear β
                    exact ⟨false, hF, h.sub [0, 2, 1, 3] (by rfl)⟩
                · clear h hF
                  rintro a w ⟨x83, hF, h⟩
                  unfold law04_DigestJoins.j2 at hF
                  show Code.wp Tryd.prog _ _ a w
                  refine wp_ret ?_
                  obtain rfl := Option.some.inj hF
                  exact ⟨.inl rfl, ret1 h Tryd.results5 (r_tmp 0 rfl) [] [] rfl rfl rfl⟩
end Go.Proofs.YtbhehllkimedaaaDoor
