/- The functions' Lean twins and contracts, printed by this session's own program: part 5. -/
import Derived.Test.YtamnmljgcmbliaaDoorG4
namespace Go.Proofs.YtamnmljgcmbliaaDoor
open Go Go.RowKit Go.Proofs
set_option maxRecDepth 100000
set_option linter.unusedVariables false
def ref01_Block.b1 (a_1 : List (UInt8)) (x12 : Int) (x13 : List Int) : Option (Flow (List Int) (Int × (List Int))) := (if (decide (x12 < (16 : Int))) = true then (if (0 : Int) ≤ IntKind.wrap .i64 (4 * x12) ∧ IntKind.wrap .i64 (4 * x12) < a_1.length then (if (0 : Int) ≤ IntKind.wrap .i64 ((IntKind.wrap .i64 (4 * x12)) + 1) ∧ IntKind.wrap .i64 ((IntKind.wrap .i64 (4 * x12)) + 1) < a_1.length then (if (0 : Int) ≤ IntKind.wrap .i64 ((IntKind.wrap .i64 (4 * x12)) + 2) ∧ IntKind.wrap .i64 ((IntKind.wrap .i64 (4 * x12)) + 2) < a_1.length then (if (0 : Int) ≤ IntKind.wrap .i64 ((IntKind.wrap .i64 (4 * x12)) + 3) ∧ IntKind.wrap .i64 ((IntKind.wrap .i64 (4 * x12)) + 3) < a_1.length then (if (0 : Int) ≤ x12 ∧ x12 < 64 then some (.cont (IntKind.wrap .i64 (x12 + 1), x13.set x12.toNat (IntKind.wrap .u32 ((IntKind.wrap .u32 ((IntKind.wrap .u32 ((IntKind.wrap .u32 ((IntKind.wrap .u32 ((a_1.getD (IntKind.wrap .i64 (4 * x12)).toNat default).toNat)) * 16777216)) + (IntKind.wrap .u32 ((IntKind.wrap .u32 ((a_1.getD (IntKind.wrap .i64 ((IntKind.wrap .i64 (4 * x12)) + 1)).toNat default).toNat)) * 65536)))) + (IntKind.wrap .u32 ((IntKind.wrap .u32 ((a_1.getD (IntKind.wrap .i64 ((IntKind.wrap .i64 (4 * x12)) + 2)).toNat default).toNat)) * 256)))) + (IntKind.wrap .u32 ((a_1.getD (IntKind.wrap .i64 ((IntKind.wrap .i64 (4 * x12)) + 3)).toNat default).toNat)))))) else none) else none) else none) else none) else none) else some (.brk (x12, x13)))
def ref01_Block.b2 (x43 : Int) (x44 : List Int) : Option (Flow (List Int) (Int × (List Int))) := (if (decide (x43 < (64 : Int))) = true then (if (0 : Int) ≤ IntKind.wrap .i64 (x43 - 15) ∧ IntKind.wrap .i64 (x43 - 15) < 64 then ((ref01_turn (x44.getD (IntKind.wrap .i64 (x43 - 15)).toNat 0) 7).bind fun r59 => ((ref01_turn (x44.getD (IntKind.wrap .i64 (x43 - 15)).toNat 0) 18).bind fun r60 => (if (0 : Int) ≤ IntKind.wrap .i64 (x43 - 2) ∧ IntKind.wrap .i64 (x43 - 2) < 64 then ((ref01_turn (x44.getD (IntKind.wrap .i64 (x43 - 2)).toNat 0) 17).bind fun r62 => ((ref01_turn (x44.getD (IntKind.wrap .i64 (x43 - 2)).toNat 0) 19).bind fun r63 => (if (0 : Int) ≤ IntKind.wrap .i64 (x43 - 16) ∧ IntKind.wrap .i64 (x43 - 16) < 64 then (if (0 : Int) ≤ IntKind.wrap .i64 (x43 - 7) ∧ IntKind.wrap .i64 (x43 - 7) < 64 then (if (0 : Int) ≤ x43 ∧ x43 < 64 then some (.cont (IntKind.wrap .i64 (x43 + 1), x44.set x43.toNat (IntKind.wrap .u32 ((IntKind.wrap .u32 ((IntKind.wrap .u32 ((x44.getD (IntKind.wrap .i64 (x43 - 16)).toNat 0) + (bits .xor .u32 (bits .xor .u32 r59 r60) (shr .u32 (x44.getD (IntKind.wrap .i64 (x43 - 15)).toNat 0) 3)))) + (x44.getD (IntKind.wrap .i64 (x43 - 7)).toNat 0))) + (bits .xor .u32 (bits .xor .u32 r62 r63) (shr .u32 (x44.getD (IntKind.wrap .i64 (x43 - 2)).toNat 0) 10)))))) else none) else none) else none))) else none))) else none) else some (.brk (x43, x44)))
def ref01_Block.b3 (r4 : (List Int)) (y72 : List Int) (x80 : Int) (x81 : Int) (x82 : Int) (x83 : Int) (x84 : Int) (x85 : Int) (x86 : Int) (x87 : Int) (x88 : Int) : Option (Flow (List Int) (Int × Int × Int × Int × Int × Int × Int × Int × Int)) := (if (decide (x88 < (64 : Int))) = true then ((ref01_turn x84 6).bind fun r107 => ((ref01_turn x84 11).bind fun r108 => ((ref01_turn x84 25).bind fun r109 => (if (0 : Int) ≤ x88 ∧ x88 < 64 then ((ref01_turn x80 2).bind fun r111 => ((ref01_turn x80 13).bind fun r112 => ((ref01_turn x80 22).bind fun r113 => some (.cont (IntKind.wrap .u32 ((IntKind.wrap .u32 ((IntKind.wrap .u32 ((IntKind.wrap .u32 ((IntKind.wrap .u32 (x87 + (bits .xor .u32 (bits .xor .u32 r107 r108) r109))) + (bits .xor .u32 (bits .and .u32 x84 x85) (bits .and .u32 (bits .xor .u32 4294967295 x84) x86)))) + (r4.getD x88.toNat 0))) + (y72.getD x88.toNat 0))) + (IntKind.wrap .u32 ((bits .xor .u32 (bits .xor .u32 r111 r112) r113) + (bits .xor .u32 (bits .xor .u32 (bits .and .u32 x80 x81) (bits .and .u32 x80 x82)) (bits .and .u32 x81 x82))))), x80, x81, x82, IntKind.wrap .u32 (x83 + (IntKind.wrap .u32 ((IntKind.wrap .u32 ((IntKind.wrap .u32 ((IntKind.wrap .u32 (x87 + (bits .xor .u32 (bits .xor .u32 r107 r108) r109))) + (bits .xor .u32 (bits .and .u32 x84 x85) (bits .and .u32 (bits .xor .u32 4294967295 x84) x86)))) + (r4.getD x88.toNat 0))) + (y72.getD x88.toNat 0)))), x84, x85, x86, IntKind.wrap .i64 (x88 + 1)))))) else none)))) else some (.brk (x80, x81, x82, x83, x84, x85, x86, x87, x88)))
def ref01_Block (a_0 : List Int) (a_1 : List (UInt8)) : Option (List Int) := (if (!decide ((a_1.length : Int) = (64 : Int))) = true then some a_0 else ((ref01_constants).bind fun r4 => ((loopN (fun s : Int × (List Int) => ref01_Block.b1 a_1 s.1 s.2) ((16 - 0 : Int).toNat + 2) (0, (List.replicate 64 0))).bind fun cr => match cr with | .ret r => some r | .next (y32, y33) => ((loopN (fun s : Int × (List Int) => ref01_Block.b2 s.1 s.2) ((64 - 16 : Int).toNat + 2) (16, y33)).bind fun cr => match cr with | .ret r => some r | .next (y71, y72) => ((loopN (fun s : Int × Int × Int × Int × Int × Int × Int × Int × Int => ref01_Block.b3 r4 y72 s.1 s.2.1 s.2.2.1 s.2.2.2.1 s.2.2.2.2.1 s.2.2.2.2.2.1 s.2.2.2.2.2.2.1 s.2.2.2.2.2.2.2.1 s.2.2.2.2.2.2.2.2) ((64 - 0 : Int).toNat + 2) (a_0.getD (0 : Int).toNat 0, a_0.getD (1 : Int).toNat 0, a_0.getD (2 : Int).toNat 0, a_0.getD (3 : Int).toNat 0, a_0.getD (4 : Int).toNat 0, a_0.getD (5 : Int).toNat 0, a_0.getD (6 : Int).toNat 0, a_0.getD (7 : Int).toNat 0, 0)).bind fun cr => match cr with | .ret r => some r | .next (y118, y119, y120, y121, y122, y123, y124, y125, y126) => some ([IntKind.wrap .u32 ((a_0.getD (0 : Int).toNat 0) + y118), IntKind.wrap .u32 ((a_0.getD (1 : Int).toNat 0) + y119), IntKind.wrap .u32 ((a_0.getD (2 : Int).toNat 0) + y120), IntKind.wrap .u32 ((a_0.getD (3 : Int).toNat 0) + y121), IntKind.wrap .u32 ((a_0.getD (4 : Int).toNat 0) + y122), IntKind.wrap .u32 ((a_0.getD (5 : Int).toNat 0) + y123), IntKind.wrap .u32 ((a_0.getD (6 : Int).toNat 0) + y124), IntKind.wrap .u32 ((a_0.getD (7 : Int).toNat 0) + y125)] ++ List.replicate (8 - 8) 0))))))
set_option maxHeartbeats 4000000 in
theorem ref01_Block_ok {a_0 : List Int} {a_1 : List (UInt8)} {r : (List Int)} (hF : ref01_Block a_0 a_1 = some r) : CallOk Tryd.prog KG 101 [(aggVP [intsCk .u32 8 a_0]), (slVP bC a_1)] [] (fun _ => []) (aggVP [intsCk .u32 8 r]) := by
  refine CallOk.intro 231 Tryd.func101 rfl Tryd.ntmps101 (Nat.le_of_ble_eq_true rfl) ?_
  intro c a w hG hn h
  unfold ref01_Block at hF
  change SatL c [.slot 0 (aggVP [intsCk .u32 8 a_0]), .slot 1 (slVP bC a_1)] a w at h
  refine wp_seq ?_
  refine region_do (n := 231) [.slot 2 0 100000 (fun v1_ _ => (lpVP v1_ 0)),
      .res 0 100000 (fun v1_ _ => (lb (v1_) 150 [intsCk .u32 8 a_0])),
      .slot 4 1 100000 (fun v1_ _ => (lpVP v1_ 0)),
      .res 1 100000 (fun v1_ _ => (lb (v1_) 150 [intsCk .u32 8 (List.replicate 8 0)]))] [0, 0, 1, 1] [⟨[0], [], [2, 3], [], some 2⟩, ⟨[], [], [4, 5], [0], some 4⟩] [1, 2, 4, 3, 5] mixed hn hG h (by kernel_rfl) ?_ ?_
  · exact ⟨⟨rfl, fun β => (GOk.plain (op_box (opt 0 rfl) (cells_agg _)) rfl)⟩, ⟨rfl, fun β => (GOk.plain (op_alloc Tryd.zeroValue150 z150) rfl)⟩, trivial⟩
  clear h
  intro β a w h
  change SatL c [.slot 1 (slVP bC a_1), .slot 2 (lpVP (β 0) 0), .slot 4 (lpVP (β 1) 0), .res (lb (β 0) 150 [intsCk .u32 8 a_0]), .res (lb (β 1) 150 [intsCk .u32 8 (List.replicate 8 0)])] a w at h
  generalize β 0 = p1 at h
  generalize β 1 = p2 at h
  clear β
  show Code.wp Tryd.prog _ _ a w
  refine wp_seq ?_
  refine wp_seq ?_
  refine region_do (n := 231) [.slot 22 100000 100000 (fun _ _ => (slVP bC a_1)),
      .slot 23 100000 100000 (fun _ _ => (intVP .i64 (a_1.length : Int))),
      .slot 24 100000 100000 (fun _ _ => (boolVP (!decide ((a_1.length : Int) = (64 : Int)))))] [0, 1, 2] [⟨[0], [], [5], [], some 22⟩, ⟨[5], [], [6], [0], some 23⟩, ⟨[6], [], [7], [0, 1], some 24⟩] [0, 1, 2, 7, 3, 4] mixed hn hG h (by kernel_rfl) ?_ ?_
  · exact ⟨⟨rfl, fun β => (GOk.plain (op_move (opt 0 rfl)) rfl)⟩, ⟨rfl, fun β => (GOk.plain (op_len_sl Tryd.underlying129 (opt 0 rfl)) rfl)⟩, ⟨rfl, fun β => (GOk.plain (op_bin bin_neq (opt 0 rfl) (opc (ic (by decide)))) rfl)⟩, trivial⟩
  clear h
  intro β a w h
  change SatL c [.slot 1 (slVP bC a_1), .slot 2 (lpVP p1 0), .slot 4 (lpVP p2 0), .slot 24 (boolVP (!decide ((a_1.length : Int) = (64 : Int)))), .res (lb p1 150 [intsCk .u32 8 a_0]), .res (lb p2 150 [intsCk .u32 8 (List.replicate 8 0)])] a w at h
  clear β
  show Code.wp Tryd.prog _ _ a w
  refine cond_L h 3 rfl (fun hb3 => ?_) (fun hb3 => ?_)
  · replace hF := tt_of hb3 hF
    replace h := h.sub [1, 2, 4, 5] (by rfl)
    change SatL c [.slot 2 (lpVP p1 0), .slot 4 (lpVP p2 0), .res (lb p1 150 [intsCk .u32 8 a_0]), .res (lb p2 150 [intsCk .u32 8 (List.replicate 8 0)])] a w at h
    refine wp_seq ?_
    refine region_do (n := 231) [.slot 25 100000 100000 (fun _ _ => (aggVP [intsCk .u32 8 a_0])),
      .res 100000 100000 (fun _ _ => (lb p2 150 [intsCk .u32 8 a_0]))] [0, 1] [⟨[0, 2], [], [4], [], some 25⟩, ⟨[1, 4], [3], [5], [0], none⟩] [1, 5] mixed hn hG h (by kernel_rfl) ?_ ?_
    · exact ⟨⟨rfl, fun β => (GOk.plain (op_load_lb [] [intsCk .u32 8 a_0] [] 1 Tryd.isAgg150 Tryd.sizeOf150 (opt 0 rfl) rfl rfl rfl) rfl)⟩, ⟨rfl, fun β => (GOk.plain (op_store_lb [] [intsCk .u32 8 (List.replicate 8 0)] [] [intsCk .u32 8 a_0] Tryd.sizeOf150 (opt 0 rfl) (opt 1 rfl) (cells_agg _) rfl rfl rfl) rfl)⟩, trivial⟩
    clear h
    intro β a w h
    change SatL c [.slot 4 (lpVP p2 0), .res (lb p2 150 [intsCk .u32 8 a_0])] a w at h
    clear β
    show Code.wp Tryd.prog _ _ a w
    refine wp_ret ?_
    obtain rfl := Option.some.inj hF
    exact ⟨.inl rfl, ret1 h Tryd.results101 (r_cell 0 1 rfl rfl Tryd.isAgg150 Tryd.sizeOf150 rfl) [] [] rfl rfl rfl⟩
  · replace hF := ff_of hb3 hF
    replace h := h.sub [0, 1, 2, 4, 5] (by rfl)
    change SatL c [.slot 1 (slVP bC a_1), .slot 2 (lpVP p1 0), .slot 4 (lpVP p2 0), .res (lb p1 150 [intsCk .u32 8 a_0]), .res (lb p2 150 [intsCk .u32 8 (List.replicate 8 0)])] a w at h
    refine wp_skip ?_
    show Code.wp Tryd.prog _ _ a w
    refine wp_seq ?_
    obtain ⟨r4, hr4, hF⟩ := bind_some hF
    refine region_do (n := 231) [.slot 26 100000 100000 (fun _ _ => (aggVP [intsCk .u32 64 r4])),
      .slot 5 1 100000 (fun v1_ _ => (lpVP v1_ 0)),
      .res 1 100000 (fun v1_ _ => (lb (v1_) 170 [intsCk .u32 64 (List.replicate 64 0)])),
      .res 1 100000 (fun v1_ _ => (lb (v1_) 170 [intsCk .u32 64 r4]))] [0, 1, 1, 2] [⟨[], [], [5], [], some 26⟩, ⟨[], [], [6, 7], [0], some 5⟩, ⟨[6, 5], [7], [8], [0, 1], none⟩] [0, 1, 2, 6, 3, 4, 8] mixed hn hG h (by kernel_rfl) ?_ ?_
    · exact ⟨⟨rfl, fun β => (GOk.plain (op_call Tryd.call105 (ref01_constants_ok hr4) trivial) rfl)⟩, ⟨rfl, fun β => (GOk.plain (op_alloc Tryd.zeroValue170 z170) rfl)⟩, ⟨rfl, fun β => (GOk.plain (op_store_lb [] [intsCk .u32 64 (List.replicate 64 0)] [] [intsCk .u32 64 r4] Tryd.sizeOf170 (opt 0 rfl) (opt 1 rfl) (cells_agg _) rfl rfl rfl) rfl)⟩, trivial⟩
    clear h
    intro β a w h
    change SatL c [.slot 1 (slVP bC a_1), .slot 2 (lpVP p1 0), .slot 4 (lpVP p2 0), .slot 5 (lpVP (β 1) 0), .res (lb p1 150 [intsCk .u32 8 a_0]), .res (lb p2 150 [intsCk .u32 8 (List.replicate 8 0)]), .res (lb (β 1) 170 [intsCk .u32 64 r4])] a w at h
    generalize β 1 = p5 at h
    clear β
    show Code.wp Tryd.prog _ _ a w
    refine wp_seq ?_
    refine region_do (n := 231) [.slot 6 0 100000 (fun v1_ _ => (lpVP v1_ 0)),
      .res 0 100000 (fun v1_ _ => (lb (v1_) 170 [intsCk .u32 64 (List.replicate 64 0)]))] [0, 0] [⟨[], [], [7, 8], [], some 6⟩] [0, 1, 2, 3, 7, 4, 5, 6, 8] mixed hn hG h (by kernel_rfl) ?_ ?_
    · exact ⟨⟨rfl, fun β => (GOk.plain (op_alloc Tryd.zeroValue170 z170) rfl)⟩, trivial⟩
    clear h
    intro β a w h
    change SatL c [.slot 1 (slVP bC a_1), .slot 2 (lpVP p1 0), .slot 4 (lpVP p2 0), .slot 5 (lpVP p5 0), .slot 6 (lpVP (β 0) 0), .res (lb p1 150 [intsCk .u32 8 a_0]), .res (lb p2 150 [intsCk .u32 8 (List.replicate 8 0)]), .res (lb p5 170 [intsCk .u32 64 r4]), .res (lb (β 0) 170 [intsCk .u32 64 (List.replicate 64 0)])] a w at h
    generalize β 0 = p6 at h
    clear β
    show Code.wp Tryd.prog _ _ a w
    refine wp_seq ?_
    refine wp_seq ?_
    refine region_do (n := 231) [.slot 7 100000 100000 (fun _ _ => (intVP .i64 0))] [0] [⟨[], [], [9], [], some 7⟩] [0, 1, 2, 3, 4, 9, 5, 6, 7, 8] mixed hn hG h (by kernel_rfl) ?_ ?_
    · exact ⟨⟨rfl, fun β => (GOk.plain (op_assign (opc (ic (by decide)))) rfl)⟩, trivial⟩
    clear h
    intro β a w h
    change SatL c [.slot 1 (slVP bC a_1), .slot 2 (lpVP p1 0), .slot 4 (lpVP p2 0), .slot 5 (lpVP p5 0), .slot 6 (lpVP p6 0), .slot 7 (intVP .i64 0), .res (lb p1 150 [intsCk .u32 8 a_0]), .res (lb p2 150 [intsCk .u32 8 (List.replicate 8 0)]), .res (lb p5 170 [intsCk .u32 64 r4]), .res (lb p6 170 [intsCk .u32 64 (List.replicate 64 0)])] a w at h
    clear β
    show Code.wp Tryd.prog _ _ a w
    refine wp_block ?_
    obtain ⟨cr28, hl29, hF⟩ := bind_some hF
    refine wp_mono (wp_loopN (R := (List Int)) (S := Int × (List Int)) (fun s a w => SatL c [.slot 1 (slVP bC a_1), .slot 2 (lpVP p1 0), .slot 4 (lpVP p2 0), .slot 5 (lpVP p5 0), .slot 6 (lpVP p6 0), .slot 7 (intVP .i64 s.1), .res (lb p1 150 [intsCk .u32 8 a_0]), .res (lb p2 150 [intsCk .u32 8 (List.replicate 8 0)]), .res (lb p5 170 [intsCk .u32 64 r4]), .res (lb p6 170 [intsCk .u32 64 s.2])] a w) (fun res e a w => match res with | .next s => e = .exit 0 ∧ SatL c [.slot 2 (lpVP p1 0), .slot 4 (lpVP p2 0), .slot 5 (lpVP p5 0), .slot 6 (lpVP p6 0), .res (lb p1 150 [intsCk .u32 8 a_0]), .res (lb p2 150 [intsCk .u32 8 (List.replicate 8 0)]), .res (lb p5 170 [intsCk .u32 64 r4]), .res (lb p6 170 [intsCk .u32 64 s.2])] a w | .ret r => e = .ret ∧ RetOk Tryd.prog Tryd.f101 c (aggVP [intsCk .u32 8 r]) (fun _ => []) a w) ?_ _ (0, (List.replicate 64 0)) _ _ _ (h.sub [0, 1, 2, 3, 4, 5, 6, 7, 8, 9] (by rfl)) hl29) ?_
    · clear hl29 hF h
      intro s a w o h hF
      obtain ⟨x12, x13⟩ := s
      change ref01_Block.b1 a_1 x12 x13 = some o at hF
      unfold ref01_Block.b1 at hF
      change SatL c [.slot 1 (slVP bC a_1), .slot 2 (lpVP p1 0), .slot 4 (lpVP p2 0), .slot 5 (lpVP p5 0), .slot 6 (lpVP p6 0), .slot 7 (intVP .i64 x12), .res (lb p1 150 [intsCk .u32 8 a_0]), .res (lb p2 150 [intsCk .u32 8 (List.replicate 8 0)]), .res (lb p5 170 [intsCk .u32 64 r4]), .res (lb p6 170 [intsCk .u32 64 x13])] a w at h
      refine wp_seq ?_
      refine wp_seq ?_
      refine region_do (n := 231) [.slot 27 100000 100000 (fun _ _ => (intVP .i64 x12)),
      .slot 28 100000 100000 (fun _ _ => (boolVP (decide (x12 < (16 : Int)))))] [0, 1] [⟨[5], [], [10], [], some 27⟩, ⟨[10], [], [11], [0], some 28⟩] [0, 1, 2, 3, 4, 5, 11, 6, 7, 8, 9] mixed hn hG h (by kernel_rfl) ?_ ?_
      · exact ⟨⟨rfl, fun β => (GOk.plain (op_move (opt 0 rfl)) rfl)⟩, ⟨rfl, fun β => (GOk.plain (op_bin bin_lss (opt 0 rfl) (opc (ic (by decide)))) rfl)⟩, trivial⟩
      clear h
      intro β a w h
      change SatL c [.slot 1 (slVP bC a_1), .slot 2 (lpVP p1 0), .slot 4 (lpVP p2 0), .slot 5 (lpVP p5 0), .slot 6 (lpVP p6 0), .slot 7 (intVP .i64 x12), .slot 28 (boolVP (decide (x12 < (16 : Int)))), .res (lb p1 150 [intsCk .u32 8 a_0]), .res (lb p2 150 [intsCk .u32 8 (List.replicate 8 0)]), .res (lb p5 170 [intsCk .u32 64 r4]), .res (lb p6 170 [intsCk .u32 64 x13])] a w at h
      clear β
      show Code.wp Tryd.prog _ _ a w
      refine cond_L h 6 rfl (fun hb22 => ?_) (fun hb22 => ?_)
      · replace hF := tt_of hb22 hF
        replace h := h.sub [0, 1, 2, 3, 4, 5, 7, 8, 9, 10] (by rfl)
        change SatL c [.slot 1 (slVP bC a_1), .slot 2 (lpVP p1 0), .slot 4 (lpVP p2 0), .slot 5 (lpVP p5 0), .slot 6 (lpVP p6 0), .slot 7 (intVP .i64 x12), .res (lb p1 150 [intsCk .u32 8 a_0]), .res (lb p2 150 [intsCk .u32 8 (List.replicate 8 0)]), .res (lb p5 170 [intsCk .u32 64 r4]), .res (lb p6 170 [intsCk .u32 64 x13])] a w at h
        refine wp_skip ?_
        show Code.wp Tryd.prog _ _ a w
        refine wp_seq ?_
        refine wp_block ?_
        obtain ⟨hv23, hF⟩ := ite_some hF
        obtain ⟨hv24, hF⟩ := ite_some hF
        obtain ⟨hv25, hF⟩ := ite_some hF
        obtain ⟨hv26, hF⟩ := ite_some hF
        obtain ⟨hv27, hF⟩ := ite_some hF
        refine region_do (n := 231) [.slot 31 100000 100000 (fun _ _ => (intVP .i64 x12)),
      .slot 32 100000 100000 (fun _ _ => (slVP bC a_1)),
      .slot 33 100000 100000 (fun _ _ => (intVP .i64 x12)),
      .slot 34 100000 100000 (fun _ _ => (intVP .i64 (IntKind.wrap .i64 (4 * x12)))),
      .slot 35 100000 100000 (fun _ _ => (ppVP [one (intVP .u8 ((a_1.getD (IntKind.wrap .i64 (4 * x12)).toNat default).toNat))])),
      .slot 36 100000 100000 (fun _ _ => (intVP .u8 ((a_1.getD (IntKind.wrap .i64 (4 * x12)).toNat default).toNat))),
      .slot 37 100000 100000 (fun _ _ => (intVP .u32 (IntKind.wrap .u32 ((a_1.getD (IntKind.wrap .i64 (4 * x12)).toNat default).toNat)))),
      .slot 38 100000 100000 (fun _ _ => (intVP .u32 (IntKind.wrap .u32 ((IntKind.wrap .u32 ((a_1.getD (IntKind.wrap .i64 (4 * x12)).toNat default).toNat)) * 16777216)))),
      .slot 39 100000 100000 (fun _ _ => (slVP bC a_1)),
      .slot 40 100000 100000 (fun _ _ => (intVP .i64 x12)),
      .slot 41 100000 100000 (fun _ _ => (intVP .i64 (IntKind.wrap .i64 (4 * x12)))),
      .slot 42 100000 100000 (fun _ _ => (intVP .i64 (IntKind.wrap .i64 ((IntKind.wrap .i64 (4 * x12)) + 1)))),
      .slot 43 100000 100000 (fun _ _ => (ppVP [one (intVP .u8 ((a_1.getD (IntKind.wrap .i64 ((IntKind.wrap .i64 (4 * x12)) + 1)).toNat default).toNat))])),
      .slot 44 100000 100000 (fun _ _ => (intVP .u8 ((a_1.getD (IntKind.wrap .i64 ((IntKind.wrap .i64 (4 * x12)) + 1)).toNat default).toNat))),
      .slot 45 100000 100000 (fun _ _ => (intVP .u32 (IntKind.wrap .u32 ((a_1.getD (IntKind.wrap .i64 ((IntKind.wrap .i64 (4 * x12)) + 1)).toNat default).toNat)))),
      .slot 46 100000 100000 (fun _ _ => (intVP .u32 (IntKind.wrap .u32 ((IntKind.wrap .u32 ((a_1.getD (IntKind.wrap .i64 ((IntKind.wrap .i64 (4 * x12)) + 1)).toNat default).toNat)) * 65536)))),
      .slot 47 100000 100000 (fun _ _ => (intVP .u32 (IntKind.wrap .u32 ((IntKind.wrap .u32 ((IntKind.wrap .u32 ((a_1.getD (IntKind.wrap .i64 (4 * x12)).toNat default).toNat)) * 16777216)) + (IntKind.wrap .u32 ((IntKind.wrap .u32 ((a_1.getD (IntKind.wrap .i64 ((IntKind.wrap .i64 (4 * x12)) + 1)).toNat default).toNat)) * 65536)))))),
      .slot 48 100000 100000 (fun _ _ => (slVP bC a_1)),
      .slot 49 100000 100000 (fun _ _ => (intVP .i64 x12)),
      .slot 50 100000 100000 (fun _ _ => (intVP .i64 (IntKind.wrap .i64 (4 * x12)))),
      .slot 51 100000 100000 (fun _ _ => (intVP .i64 (IntKind.wrap .i64 ((IntKind.wrap .i64 (4 * x12)) + 2)))),
      .slot 52 100000 100000 (fun _ _ => (ppVP [one (intVP .u8 ((a_1.getD (IntKind.wrap .i64 ((IntKind.wrap .i64 (4 * x12)) + 2)).toNat default).toNat))])),
      .slot 53 100000 100000 (fun _ _ => (intVP .u8 ((a_1.getD (IntKind.wrap .i64 ((IntKind.wrap .i64 (4 * x12)) + 2)).toNat default).toNat))),
      .slot 54 100000 100000 (fun _ _ => (intVP .u32 (IntKind.wrap .u32 ((a_1.getD (IntKind.wrap .i64 ((IntKind.wrap .i64 (4 * x12)) + 2)).toNat default).toNat)))),
      .slot 55 100000 100000 (fun _ _ => (intVP .u32 (IntKind.wrap .u32 ((IntKind.wrap .u32 ((a_1.getD (IntKind.wrap .i64 ((IntKind.wrap .i64 (4 * x12)) + 2)).toNat default).toNat)) * 256)))),
      .slot 56 100000 100000 (fun _ _ => (intVP .u32 (IntKind.wrap .u32 ((IntKind.wrap .u32 ((IntKind.wrap .u32 ((IntKind.wrap .u32 ((a_1.getD (IntKind.wrap .i64 (4 * x12)).toNat default).toNat)) * 16777216)) + (IntKind.wrap .u32 ((IntKind.wrap .u32 ((a_1.getD (IntKind.wrap .i64 ((IntKind.wrap .i64 (4 * x12)) + 1)).toNat default).toNat)) * 65536)))) + (IntKind.wrap .u32 ((IntKind.wrap .u32 ((a_1.getD (IntKind.wrap .i64 ((IntKind.wrap .i64 (4 * x12)) + 2)).toNat default).toNat)) * 256)))))),
      .slot 57 100000 100000 (fun _ _ => (slVP bC a_1)),
      .slot 58 100000 100000 (fun _ _ => (intVP .i64 x12)),
      .slot 59 100000 100000 (fun _ _ => (intVP .i64 (IntKind.wrap .i64 (4 * x12)))),
      .slot 60 100000 100000 (fun _ _ => (intVP .i64 (IntKind.wrap .i64 ((IntKind.wrap .i64 (4 * x12)) + 3)))),
      .slot 61 100000 100000 (fun _ _ => (ppVP [one (intVP .u8 ((a_1.getD (IntKind.wrap .i64 ((IntKind.wrap .i64 (4 * x12)) + 3)).toNat default).toNat))])),
      .slot 62 100000 100000 (fun _ _ => (intVP .u8 ((a_1.getD (IntKind.wrap .i64 ((IntKind.wrap .i64 (4 * x12)) + 3)).toNat default).toNat))),
      .slot 63 100000 100000 (fun _ _ => (intVP .u32 (IntKind.wrap .u32 ((a_1.getD (IntKind.wrap .i64 ((IntKind.wrap .i64 (4 * x12)) + 3)).toNat default).toNat)))),
      .slot 64 100000 100000 (fun _ _ => (intVP .u32 (IntKind.wrap .u32 ((IntKind.wrap .u32 ((IntKind.wrap .u32 ((IntKind.wrap .u32 ((IntKind.wrap .u32 ((a_1.getD (IntKind.wrap .i64 (4 * x12)).toNat default).toNat)) * 16777216)) + (IntKind.wrap .u32 ((IntKind.wrap .u32 ((a_1.getD (IntKind.wrap .i64 ((IntKind.wrap .i64 (4 * x12)) + 1)).toNat default).toNat)) * 65536)))) + (IntKind.wrap .u32 ((IntKind.wrap .u32 ((a_1.getD (IntKind.wrap .i64 ((IntKind.wrap .i64 (4 * x12)) + 2)).toNat default).toNat)) * 256)))) + (IntKind.wrap .u32 ((a_1.getD (IntKind.wrap .i64 ((IntKind.wrap .i64 (4 * x12)) + 3)).toNat default).toNat)))))),
      .slot 65 100000 100000 (fun _ _ => (lpVP p6 (0 + x12.toNat * 1))),
      .res 100000 100000 (fun _ _ => (lb p6 170 [intsCk .u32 64 (x13.set x12.toNat (IntKind.wrap .u32 ((IntKind.wrap .u32 ((IntKind.wrap .u32 ((IntKind.wrap .u32 ((IntKind.wrap .u32 ((a_1.getD (IntKind.wrap .i64 (4 * x12)).toNat default).toNat)) * 16777216)) + (IntKind.wrap .u32 ((IntKind.wrap .u32 ((a_1.getD (IntKind.wrap .i64 ((IntKind.wrap .i64 (4 * x12)) + 1)).toNat default).toNat)) * 65536)))) + (IntKind.wrap .u32 ((IntKind.wrap .u32 ((a_1.getD (IntKind.wrap .i64 ((IntKind.wrap .i64 (4 * x12)) + 2)).toNat default).toNat)) * 256)))) + (IntKind.wrap .u32 ((a_1.getD (IntKind.wrap .i64 ((IntKind.wrap .i64 (4 * x12)) + 3)).toNat default).toNat)))))]))] [0, 1, 2, 3, 4, 5, 6, 7, 8, 9, 10, 11, 12, 13, 14, 15, 16, 17, 18, 19, 20, 21, 22, 23, 24, 25, 26, 27, 28, 29, 30, 31, 32, 33, 34, 35] [⟨[5], [], [10], [], some 31⟩, ⟨[0], [], [11], [], some 32⟩, ⟨[5], [], [12], [], some 33⟩, ⟨[12], [], [13], [2], some 34⟩, ⟨[11, 13], [], [14], [1, 2, 3], some 35⟩, ⟨[14], [], [15], [1, 2, 3, 4], some 36⟩, ⟨[15], [], [16], [1, 2, 3, 4, 5], some 37⟩, ⟨[16], [], [17], [1, 2, 3, 4, 5, 6], some 38⟩, ⟨[0], [], [18], [], some 39⟩, ⟨[5], [], [19], [], some 40⟩, ⟨[19], [], [20], [9], some 41⟩, ⟨[20], [], [21], [9, 10], some 42⟩, ⟨[18, 21], [], [22], [8, 9, 10, 11], some 43⟩, ⟨[22], [], [23], [8, 9, 10, 11, 12], some 44⟩, ⟨[23], [], [24], [8, 9, 10, 11, 12, 13], some 45⟩, ⟨[24], [], [25], [8, 9, 10, 11, 12, 13, 14], some 46⟩, ⟨[17, 25], [], [26], [1, 2, 3, 4, 5, 6, 7, 8, 9, 10, 11, 12, 13, 14, 15], some 47⟩, ⟨[0], [], [27], [], some 48⟩, ⟨[5], [], [28], [], some 49⟩, ⟨[28], [], [29], [18], some 50⟩, ⟨[29], [], [30], [18, 19], some 51⟩, ⟨[27, 30], [], [31], [17, 18, 19, 20], some 52⟩, ⟨[31], [], [32], [17, 18, 19, 20, 21], some 53⟩, ⟨[32], [], [33], [17, 18, 19, 20, 21, 22], some 54⟩, ⟨[33], [], [34], [17, 18, 19, 20, 21, 22, 23], some 55⟩, ⟨[26, 34], [], [35], [1, 2, 3, 4, 5, 6, 7, 8, 9, 10, 11, 12, 13, 14, 15, 16, 17, 18, 19, 20, 21, 22, 23, 24], some 56⟩, ⟨[0], [], [36], [], some 57⟩, ⟨[5], [], [37], [], some 58⟩, ⟨[37], [], [38], [27], some 59⟩, ⟨[38], [], [39], [27, 28], some 60⟩, ⟨[36, 39], [], [40], [26, 27, 28, 29], some 61⟩, ⟨[40], [], [41], [26, 27, 28, 29, 30], some 62⟩, ⟨[41], [], [42], [26, 27, 28, 29, 30, 31], some 63⟩, ⟨[35, 42], [], [43], [1, 2, 3, 4, 5, 6, 7, 8, 9, 10, 11, 12, 13, 14, 15, 16, 17, 18, 19, 20, 21, 22, 23, 24, 25, 26, 27, 28, 29, 30, 31, 32], some 64⟩, ⟨[4, 10], [], [44], [0, 1, 2, 3, 4, 5, 6, 7, 8, 9, 10, 11, 12, 13, 14, 15, 16, 17, 18, 19, 20, 21, 22, 23, 24, 25, 26, 27, 28, 29, 30, 31, 32, 33], some 65⟩, ⟨[44, 43], [9], [45], [0, 1, 2, 3, 4, 5, 6, 7, 8, 9, 10, 11, 12, 13, 14, 15, 16, 17, 18, 19, 20, 21, 22, 23, 24, 25, 26, 27, 28, 29, 30, 31, 32, 33, 34], none⟩] [0, 1, 2, 3, 4, 5, 6, 7, 8, 45] mixed hn hG h (by kernel_rfl) ?_ ?_
        · exact ⟨⟨rfl, fun β => (GOk.plain (op_move (opt 0 rfl)) rfl)⟩, ⟨rfl, fun β => (GOk.plain (op_move (opt 0 rfl)) rfl)⟩, ⟨rfl, fun β => (GOk.plain (op_move (opt 0 rfl)) rfl)⟩, ⟨rfl, fun β => (GOk.plain (op_bin bin_mul (opc (ic (by decide))) (opt 0 rfl)) rfl)⟩, ⟨rfl, fun β => (GOk.plain (op_indexAddr_sl Tryd.underlying129 Tryd.sizeOf5 lens_bC (opt 0 rfl) (opt 1 rfl) hv23) rfl)⟩, ⟨rfl, fun β => (GOk.plain (op_load_pp1 [] Tryd.isAgg5 (opt 0 rfl)) rfl)⟩, ⟨rfl, fun β => (GOk.plain (op_convert_int Tryd.underlying5 Tryd.underlying51 (opt 0 rfl)) rfl)⟩, ⟨rfl, fun β => (GOk.plain (op_bin bin_mul (opt 0 rfl) (opc (ic (by decide)))) rfl)⟩, ⟨rfl, fun β => (GOk.plain (op_move (opt 0 rfl)) rfl)⟩, ⟨rfl, fun β => (GOk.plain (op_move (opt 0 rfl)) rfl)⟩, ⟨rfl, fun β => (GOk.plain (op_bin bin_mul (opc (ic (by decide))) (opt 0 rfl)) rfl)⟩, ⟨rfl, fun β => (GOk.plain (op_bin bin_add (opt 0 rfl) (opc (ic (by decide)))) rfl)⟩, ⟨rfl, fun β => (GOk.plain (op_indexAddr_sl Tryd.underlying129 Tryd.sizeOf5 lens_bC (opt 0 rfl) (opt 1 rfl) hv24) rfl)⟩, ⟨rfl, fun β => (GOk.plain (op_load_pp1 [] Tryd.isAgg5 (opt 0 rfl)) rfl)⟩, ⟨rfl, fun β => (GOk.plain (op_convert_int Tryd.underlying5 Tryd.underlying51 (opt 0 rfl)) rfl)⟩, ⟨rfl, fun β => (GOk.plain (op_bin bin_mul (opt 0 rfl) (opc (ic (by decide)))) rfl)⟩, ⟨rfl, fun β => (GOk.plain (op_bin bin_add (opt 0 rfl) (opt 1 rfl)) rfl)⟩, ⟨rfl, fun β => (GOk.plain (op_move (opt 0 rfl)) rfl)⟩, ⟨rfl, fun β => (GOk.plain (op_move (opt 0 rfl)) rfl)⟩, ⟨rfl, fun β => (GOk.plain (op_bin bin_mul (opc (ic (by decide))) (opt 0 rfl)) rfl)⟩, ⟨rfl, fun β => (GOk.plain (op_bin bin_add (opt 0 rfl) (opc (ic (by decide)))) rfl)⟩, ⟨rfl, fun β => (GOk.plain (op_indexAddr_sl Tryd.underlying129 Tryd.sizeOf5 lens_bC (opt 0 rfl) (opt 1 rfl) hv25) rfl)⟩, ⟨rfl, fun β => (GOk.plain (op_load_pp1 [] Tryd.isAgg5 (opt 0 rfl)) rfl)⟩, ⟨rfl, fun β => (GOk.plain (op_convert_int Tryd.underlying5 Tryd.underlying51 (opt 0 rfl)) rfl)⟩, ⟨rfl, fun β => (GOk.plain (op_bin bin_mul (opt 0 rfl) (opc (ic (by decide)))) rfl)⟩, ⟨rfl, fun β => (GOk.plain (op_bin bin_add (opt 0 rfl) (opt 1 rfl)) rfl)⟩, ⟨rfl, fun β => (GOk.plain (op_move (opt 0 rfl)) rfl)⟩, ⟨rfl, fun β => (GOk.plain (op_move (opt 0 rfl)) rfl)⟩, ⟨rfl, fun β => (GOk.plain (op_bin bin_mul (opc (ic (by decide))) (opt 0 rfl)) rfl)⟩, ⟨rfl, fun β => (GOk.plain (op_bin bin_add (opt 0 rfl) (opc (ic (by decide)))) rfl)⟩, ⟨rfl, fun β => (GOk.plain (op_indexAddr_sl Tryd.underlying129 Tryd.sizeOf5 lens_bC (opt 0 rfl) (opt 1 rfl) hv26) rfl)⟩, ⟨rfl, fun β => (GOk.plain (op_load_pp1 [] Tryd.isAgg5 (opt 0 rfl)) rfl)⟩, ⟨rfl, fun β => (GOk.plain (op_convert_int Tryd.underlying5 Tryd.underlying51 (opt 0 rfl)) rfl)⟩, ⟨rfl, fun β => (GOk.plain (op_bin bin_add (opt 0 rfl) (opt 1 rfl)) rfl)⟩, ⟨rfl, fun β => (GOk.plain (op_indexAddr_lb Tryd.underlying170 Tryd.sizeOf51 (opt 0 rfl) (opt 1 rfl) hv27) rfl)⟩, ⟨rfl, fun β => (GOk.plain (op_store_lbI (i := x12) [] [] Tryd.sizeOf51 (opt 0 rfl) (opt 1 rfl) rfl hv27) rfl)⟩, trivial⟩
        clear h
        intro β a w h
        change SatL c [.slot 1 (slVP bC a_1), .slot 2 (lpVP p1 0), .slot 4 (lpVP p2 0), .slot 5 (lpVP p5 0), .slot 6 (lpVP p6 0), .slot 7 (intVP .i64 x12), .res (lb p1 150 [intsCk .u32 8 a_0]), .res (lb p2 150 [intsCk .u32 8 (List.replicate 8 0)]), .res (lb p5 170 [intsCk .u32 64 r4]), .res (lb p6 170 [intsCk .u32 64 (x13.set x12.toNat (IntKind.wrap .u32 ((IntKind.wrap .u32 ((IntKind.wrap .u32 ((IntKind.wrap .u32 ((IntKind.wrap .u32 ((a_1.getD (IntKind.wrap .i64 (4 * x12)).toNat default).toNat)) * 16777216)) + (IntKind.wrap .u32 ((IntKind.wrap .u32 ((a_1.getD (IntKind.wrap .i64 ((IntKind.wrap .i64 (4 * x12)) + 1)).toNat default).toNat)) * 65536)))) + (IntKind.wrap .u32 ((IntKind.wrap .u32 ((a_1.getD (IntKind.wrap .i64 ((IntKind.wrap .i64 (4 * x12)) + 2)).toNat default).toNat)) * 256)))) + (IntKind.wrap .u32 ((a_1.getD (IntKind.wrap .i64 ((IntKind.wrap .i64 (4 * x12)) + 3)).toNat default).toNat)))))])] a w at h
        clear β
        show Code.wp Tryd.prog _ _ a w
        refine region_do (n := 231) [.slot 29 100000 100000 (fun _ _ => (intVP .i64 x12)),
      .slot 30 100000 100000 (fun _ _ => (intVP .i64 (IntKind.wrap .i64 (x12 + 1)))),
      .slot 7 100000 100000 (fun _ _ => (intVP .i64 (IntKind.wrap .i64 (x12 + 1))))] [0, 1, 2] [⟨[5], [], [10], [], some 29⟩, ⟨[10], [], [11], [0], some 30⟩, ⟨[11], [5], [12], [0, 1], some 7⟩] [0, 1, 2, 3, 4, 12, 6, 7, 8, 9] mixed hn hG h (by kernel_rfl) ?_ ?_
        · exact ⟨⟨rfl, fun β => (GOk.plain (op_move (opt 0 rfl)) rfl)⟩, ⟨rfl, fun β => (GOk.plain (op_bin bin_add (opt 0 rfl) (opc (ic (by decide)))) rfl)⟩, ⟨rfl, fun β => (GOk.drop _ (GOk.plain (op_assign (opt 0 rfl)) rfl))⟩, trivial⟩
        clear h
        intro β a w h
        change SatL c [.slot 1 (slVP bC a_1), .slot 2 (lpVP p1 0), .slot 4 (lpVP p2 0), .slot 5 (lpVP p5 0), .slot 6 (lpVP p6 0), .slot 7 (intVP .i64 (IntKind.wrap .i64 (x12 + 1))), .res (lb p1 150 [intsCk .u32 8 a_0]), .res (lb p2 150 [intsCk .u32 8 (List.replicate 8 0)]), .res (lb p5 170 [intsCk .u32 64 r4]), .res (lb p6 170 [intsCk .u32 64 (x13.set x12.toNat (IntKind.wrap .u32 ((IntKind.wrap .u32 ((IntKind.wrap .u32 ((IntKind.wrap .u32 ((IntKind.wrap .u32 ((a_1.getD (IntKind.wrap .i64 (4 * x12)).toNat default).toNat)) * 16777216)) + (IntKind.wrap .u32 ((IntKind.wrap .u32 ((a_1.getD (IntKind.wrap .i64 ((IntKind.wrap .i64 (4 * x12)) + 1)).toNat default).toNat)) * 65536)))) + (IntKind.wrap .u32 ((IntKind.wrap .u32 ((a_1.getD (IntKind.wrap .i64 ((IntKind.wrap .i64 (4 * x12)) + 2)).toNat default).toNat)) * 256)))) + (IntKind.wrap .u32 ((a_1.getD (IntKind.wrap .i64 ((IntKind.wrap .i64 (4 * x12)) + 3)).toNat default).toNat)))))])] a w at h
        clear β
        obtain rfl := Option.some.inj hF
        exact ⟨rfl, h.sub [0, 1, 2, 3, 4, 5, 6, 7, 8, 9] (by rfl)⟩
      · replace hF := ff_of hb22 hF
        replace h := h.sub [0, 1, 2, 3, 4, 5, 7, 8, 9, 10] (by rfl)
        change SatL c [.slot 1 (slVP bC a_1), .slot 2 (lpVP p1 0), .slot 4 (lpVP p2 0), .slot 5 (lpVP p5 0), .slot 6 (lpVP p6 0), .slot 7 (intVP .i64 x12), .res (lb p1 150 [intsCk .u32 8 a_0]), .res (lb p2 150 [intsCk .u32 8 (List.replicate 8 0)]), .res (lb p5 170 [intsCk .u32 64 r4]), .res (lb p6 170 [intsCk .u32 64 x13])] a w at h
        refine wp_exit ?_
        obtain rfl := Option.some.inj hF
        exact ⟨exit_ne _, rfl, h.sub [1, 2, 3, 4, 6, 7, 8, 9] (by rfl)⟩
    · clear hl29
      intro e a w hq
      cases cr28 with
      | ret r30 =>
        obtain ⟨rfl, hq⟩ := hq
        obtain rfl := Option.some.inj hF
        exact ⟨.inl rfl, hq⟩
      | next s31 =>
        obtain ⟨y32, y33⟩ := s31
        obtain ⟨rfl, h⟩ := hq
        change SatL c [.slot 2 (lpVP p1 0), .slot 4 (lpVP p2 0), .slot 5 (lpVP p5 0), .slot 6 (lpVP p6 0), .res (lb p1 150 [intsCk .u32 8 a_0]), .res (lb p2 150 [intsCk .u32 8 (List.replicate 8 0)]), .res (lb p5 170 [intsCk .u32 64 r4]), .res (lb p6 170 [intsCk .u32 64 y33])] a w at h
        refine inBlock_at ?_
        show Code.wp Tryd.prog _ _ a w
        refine wp_seq ?_
        refine wp_seq ?_
        refine region_do (n := 231) [.slot 8 100000 100000 (fun _ _ => (intVP .i64 16))] [0] [⟨[], [], [8], [], some 8⟩] [0, 1, 2, 3, 8, 4, 5, 6, 7] mixed hn hG h (by kernel_rfl) ?_ ?_
        · exact ⟨⟨rfl, fun β => (GOk.plain (op_assign (opc (ic (by decide)))) rfl)⟩, trivial⟩
        clear h
        intro β a w h
        change SatL c [.slot 2 (lpVP p1 0), .slot 4 (lpVP p2 0), .slot 5 (lpVP p5 0), .slot 6 (lpVP p6 0), .slot 8 (intVP .i64 16), .res (lb p1 150 [intsCk .u32 8 a_0]), .res (lb p2 150 [intsCk .u32 8 (List.replicate 8 0)]), .res (lb p5 170 [intsCk .u32 64 r4]), .res (lb p6 170 [intsCk .u32 64 y33])] a w at h
        clear β
        show Code.wp Tryd.prog _ _ a w
        refine wp_block ?_
        obtain ⟨cr67, hl68, hF⟩ := bind_some hF
        refine wp_mono (wp_loopN (R := (List Int)) (S := Int × (List Int)) (fun s a w => SatL c [.slot 2 (lpVP p1 0), .slot 4 (lpVP p2 0), .slot 5 (lpVP p5 0), .slot 6 (lpVP p6 0), .slot 8 (intVP .i64 s.1), .res (lb p1 150 [intsCk .u32 8 a_0]), .res (lb p2 150 [intsCk .u32 8 (List.replicate 8 0)]), .res (lb p5 170 [intsCk .u32 64 r4]), .res (lb p6 170 [intsCk .u32 64 s.2])] a w) (fun res e a w => match res with | .next s => e = .exit 2 ∧ SatL c [.slot 2 (lpVP p1 0), .slot 4 (lpVP p2 0), .slot 5 (lpVP p5 0), .slot 6 (lpVP p6 0), .res (lb p1 150 [intsCk .u32 8 a_0]), .res (lb p2 150 [intsCk .u32 8 (List.replicate 8 0)]), .res (lb p5 170 [intsCk .u32 64 r4]), .res (lb p6 170 [intsCk .u32 64 s.2])] a w | .ret r => e = .ret ∧ RetOk Tryd.prog Tryd.f101 c (aggVP [intsCk .u32 8 r]) (fun _ => []) a w) ?_ _ (16, y33) _ _ _ (h.sub [0, 1, 2, 3, 4, 5, 6, 7, 8] (by rfl)) hl68) ?_
        · clear hl68 hF h
          intro s a w o h hF
          obtain ⟨x43, x44⟩ := s
          change ref01_Block.b2 x43 x44 = some o at hF
          unfold ref01_Block.b2 at hF
          change SatL c [.slot 2 (lpVP p1 0), .slot 4 (lpVP p2 0), .slot 5 (lpVP p5 0), .slot 6 (lpVP p6 0), .slot 8 (intVP .i64 x43), .res (lb p1 150 [intsCk .u32 8 a_0]), .res (lb p2 150 [intsCk .u32 8 (List.replicate 8 0)]), .res (lb p5 170 [intsCk .u32 64 r4]), .res (lb p6 170 [intsCk .u32 64 x44])] a w at h
          refine wp_seq ?_
          refine wp_seq ?_
          refine region_do (n := 231) [.slot 66 100000 100000 (fun _ _ => (intVP .i64 x43)),
      .slot 67 100000 100000 (fun _ _ => (boolVP (decide (x43 < (64 : Int)))))] [0, 1] [⟨[4], [], [9], [], some 66⟩, ⟨[9], [], [10], [0], some 67⟩] [0, 1, 2, 3, 4, 10, 5, 6, 7, 8] mixed hn hG h (by kernel_rfl) ?_ ?_
          · exact ⟨⟨rfl, fun β => (GOk.plain (op_move (opt 0 rfl)) rfl)⟩, ⟨rfl, fun β => (GOk.plain (op_bin bin_lss (opt 0 rfl) (opc (ic (by decide)))) rfl)⟩, trivial⟩
          clear h
          intro β a w h
          change SatL c [.slot 2 (lpVP p1 0), .slot 4 (lpVP p2 0), .slot 5 (lpVP p5 0), .slot 6 (lpVP p6 0), .slot 8 (intVP .i64 x43), .slot 67 (boolVP (decide (x43 < (64 : Int)))), .res (lb p1 150 [intsCk .u32 8 a_0]), .res (lb p2 150 [intsCk .u32 8 (List.replicate 8 0)]), .res (lb p5 170 [intsCk .u32 64 r4]), .res (lb p6 170 [intsCk .u32 64 x44])] a w at h
          clear β
          show Code.wp Tryd.prog _ _ a w
          refine cond_L h 5 rfl (fun hb57 => ?_) (fun hb57 => ?_)
          · replace hF := tt_of hb57 hF
            replace h := h.sub [0, 1, 2, 3, 4, 6, 7, 8, 9] (by rfl)
            change SatL c [.slot 2 (lpVP p1 0), .slot 4 (lpVP p2 0), .slot 5 (lpVP p5 0), .slot 6 (lpVP p6 0), .slot 8 (intVP .i64 x43), .res (lb p1 150 [intsCk .u32 8 a_0]), .res (lb p2 150 [intsCk .u32 8 (List.replicate 8 0)]), .res (lb p5 170 [intsCk .u32 64 r4]), .res (lb p6 170 [intsCk .u32 64 x44])] a w at h
            refine wp_skip ?_
            show Code.wp Tryd.prog _ _ a w
            refine wp_seq ?_
            refine wp_block ?_
            refine wp_seq ?_
            obtain ⟨hv58, hF⟩ := ite_some hF
            obtain ⟨r59, hr59, hF⟩ := bind_some hF
            obtain ⟨r60, hr60, hF⟩ := bind_some hF
            refine region_do (n := 231) [.slot 70 100000 100000 (fun _ _ => (intVP .i64 x43)),
      .slot 71 100000 100000 (fun _ _ => (intVP .i64 (IntKind.wrap .i64 (x43 - 15)))),
      .slot 72 100000 100000 (fun _ _ => (lpVP p6 (0 + (IntKind.wrap .i64 (x43 - 15)).toNat * 1))),
      .slot 73 100000 100000 (fun _ _ => (intVP .u32 (x44.getD (IntKind.wrap .i64 (x43 - 15)).toNat 0))),
      .slot 74 100000 100000 (fun _ _ => (intVP .u32 r59)),
      .slot 75 100000 100000 (fun _ _ => (intVP .i64 x43)),
      .slot 76 100000 100000 (fun _ _ => (intVP .i64 (IntKind.wrap .i64 (x43 - 15)))),
      .slot 77 100000 100000 (fun _ _ => (lpVP p6 (0 + (IntKind.wrap .i64 (x43 - 15)).toNat * 1))),
      .slot 78 100000 100000 (fun _ _ => (intVP .u32 (x44.getD (IntKind.wrap .i64 (x43 - 15)).toNat 0))),
      .slot 79 100000 100000 (fun _ _ => (intVP .u32 r60)),
      .slot 80 100000 100000 (fun _ _ => (intVP .u32 (bits .xor .u32 r59 r60))),
      .slot 81 100000 100000 (fun _ _ => (intVP .i64 x43)),
      .slot 82 100000 100000 (fun _ _ => (intVP .i64 (IntKind.wrap .i64 (x43 - 15)))),
      .slot 83 100000 100000 (fun _ _ => (lpVP p6 (0 + (IntKind.wrap .i64 (x43 - 15)).toNat * 1))),
      .slot 84 100000 100000 (fun _ _ => (intVP .u32 (x44.getD (IntKind.wrap .i64 (x43 - 15)).toNat 0))),
      .slot 85 100000 100000 (fun _ _ => (intVP .u32 (shr .u32 (x44.getD (IntKind.wrap .i64 (x43 - 15)).toNat 0) 3))),
      .slot 86 100000 100000 (fun _ _ => (intVP .u32 (bits .xor .u32 (bits .xor .u32 r59 r60) (shr .u32 (x44.getD (IntKind.wrap .i64 (x43 - 15)).toNat 0) 3)))),
      .slot 9 100000 100000 (fun _ _ => (intVP .u32 (bits .xor .u32 (bits .xor .u32 r59 r60) (shr .u32 (x44.getD (IntKind.wrap .i64 (x43 - 15)).toNat 0) 3))))] [0, 1, 2, 3, 4, 5, 6, 7, 8, 9, 10, 11, 12, 13, 14, 15, 16, 17] [⟨[4], [], [9], [], some 70⟩, ⟨[9], [], [10], [0], some 71⟩, ⟨[3, 10], [], [11], [0, 1], some 72⟩, ⟨[11, 8], [], [12], [0, 1, 2], some 73⟩, ⟨[12], [], [13], [0, 1, 2, 3], some 74⟩, ⟨[4], [], [14], [], some 75⟩, ⟨[14], [], [15], [5], some 76⟩, ⟨[3, 15], [], [16], [5, 6], some 77⟩, ⟨[16, 8], [], [17], [5, 6, 7], some 78⟩, ⟨[17], [], [18], [0, 1, 2, 3, 4, 5, 6, 7, 8], some 79⟩, ⟨[13, 18], [], [19], [0, 1, 2, 3, 4, 5, 6, 7, 8, 9], some 80⟩, ⟨[4], [], [20], [], some 81⟩, ⟨[20], [], [21], [11], some 82⟩, ⟨[3, 21], [], [22], [11, 12], some 83⟩, ⟨[22, 8], [], [23], [11, 12, 13], some 84⟩, ⟨[23], [], [24], [11, 12, 13, 14], some 85⟩, ⟨[19, 24], [], [25], [0, 1, 2, 3, 4, 5, 6, 7, 8, 9, 10, 11, 12, 13, 14, 15], some 86⟩, ⟨[25], [], [26], [0, 1, 2, 3, 4, 5, 6, 7, 8, 9, 10, 11, 12, 13, 14, 15, 16], some 9⟩] [0, 1, 2, 3, 4, 26, 5, 6, 7, 8] mixed hn hG h (by kernel_rfl) ?_ ?_
            · exact ⟨⟨rfl, fun β => (GOk.plain (op_move (opt 0 rfl)) rfl)⟩, ⟨rfl, fun β => (GOk.plain (op_bin bin_sub (opt 0 rfl) (opc (ic (by decide)))) rfl)⟩, ⟨rfl, fun β => (GOk.plain (op_indexAddr_lb Tryd.underlying170 Tryd.sizeOf51 (opt 0 rfl) (opt 1 rfl) hv58) rfl)⟩, ⟨rfl, fun β => (GOk.plain (op_load_lbI (i := IntKind.wrap .i64 (x43 - 15)) [] [] 1 Tryd.isAgg51 (opt 0 rfl) rfl rfl hv58) rfl)⟩, ⟨rfl, fun β => (GOk.plain (op_call Tryd.call106 (ref01_turn_ok hr59) ⟨(opt 0 rfl), (opc (ic (by decide))), trivial⟩) rfl)⟩, ⟨rfl, fun β => (GOk.plain (op_move (opt 0 rfl)) rfl)⟩, ⟨rfl, fun β => (GOk.plain (op_bin bin_sub (opt 0 rfl) (opc (ic (by decide)))) rfl)⟩, ⟨rfl, fun β => (GOk.plain (op_indexAddr_lb Tryd.underlying170 Tryd.sizeOf51 (opt 0 rfl) (opt 1 rfl) hv58) rfl)⟩, ⟨rfl, fun β => (GOk.plain (op_load_lbI (i := IntKind.wrap .i64 (x43 - 15)) [] [] 1 Tryd.isAgg51 (opt 0 rfl) rfl rfl hv58) rfl)⟩, ⟨rfl, fun β => (GOk.plain (op_call Tryd.call106 (ref01_turn_ok hr60) ⟨(opt 0 rfl), (opc (ic (by decide))), trivial⟩) rfl)⟩, ⟨rfl, fun β => (GOk.plain (op_bin bin_xor (opt 0 rfl) (opt 1 rfl)) rfl)⟩, ⟨rfl, fun β => (GOk.plain (op_move (opt 0 rfl)) rfl)⟩, ⟨rfl, fun β => (GOk.plain (op_bin bin_sub (opt 0 rfl) (opc (ic (by decide)))) rfl)⟩, ⟨rfl, fun β => (GOk.plain (op_indexAddr_lb Tryd.underlying170 Tryd.sizeOf51 (opt 0 rfl) (opt 1 rfl) hv58) rfl)⟩, ⟨rfl, fun β => (GOk.plain (op_load_lbI (i := IntKind.wrap .i64 (x43 - 15)) [] [] 1 Tryd.isAgg51 (opt 0 rfl) rfl rfl hv58) rfl)⟩, ⟨rfl, fun β => (GOk.plain (op_bin (bin_shru rfl) (opt 0 rfl) (opc (ic (by decide)))) rfl)⟩, ⟨rfl, fun β => (GOk.plain (op_bin bin_xor (opt 0 rfl) (opt 1 rfl)) rfl)⟩, ⟨rfl, fun β => (GOk.plain (op_assign (opt 0 rfl)) rfl)⟩, trivial⟩
            clear h
            intro β a w h
            change SatL c [.slot 2 (lpVP p1 0), .slot 4 (lpVP p2 0), .slot 5 (lpVP p5 0), .slot 6 (lpVP p6 0), .slot 8 (intVP .i64 x43), .slot 9 (intVP .u32 (bits .xor .u32 (bits .xor .u32 r59 r60) (shr .u32 (x44.getD (IntKind.wrap .i64 (x43 - 15)).toNat 0) 3))), .res (lb p1 150 [intsCk .u32 8 a_0]), .res (lb p2 150 [intsCk .u32 8 (List.replicate 8 0)]), .res (lb p5 170 [intsCk .u32 64 r4]), .res (lb p6 170 [intsCk .u32 64 x44])] a w at h
            clear β
            show Code.wp Tryd.prog _ _ a w
            refine wp_seq ?_
            obtain ⟨hv61, hF⟩ := ite_some hF
            obtain ⟨r62, hr62, hF⟩ := bind_some hF
            obtain ⟨r63, hr63, hF⟩ := bind_some hF
            refine region_do (n := 231) [.slot 87 100000 100000 (fun _ _ => (intVP .i64 x43)),
      .slot 88 100000 100000 (fun _ _ => (intVP .i64 (IntKind.wrap .i64 (x43 - 2)))),
      .slot 89 100000 100000 (fun _ _ => (lpVP p6 (0 + (IntKind.wrap .i64 (x43 - 2)).toNat * 1))),
      .slot 90 100000 100000 (fun _ _ => (intVP .u32 (x44.getD (IntKind.wrap .i64 (x43 - 2)).toNat 0))),
      .slot 91 100000 100000 (fun _ _ => (intVP .u32 r62)),
      .slot 92 100000 100000 (fun _ _ => (intVP .i64 x43)),
      .slot 93 100000 100000 (fun _ _ => (intVP .i64 (IntKind.wrap .i64 (x43 - 2)))),
      .slot 94 100000 100000 (fun _ _ => (lpVP p6 (0 + (IntKind.wrap .i64 (x43 - 2)).toNat * 1))),
      .slot 95 100000 100000 (fun _ _ => (intVP .u32 (x44.getD (IntKind.wrap .i64 (x43 - 2)).toNat 0))),
      .slot 96 100000 100000 (fun _ _ => (intVP .u32 r63)),
      .slot 97 100000 100000 (fun _ _ => (intVP .u32 (bits .xor .u32 r62 r63))),
      .slot 98 100000 100000 (fun _ _ => (intVP .i64 x43)),
      .slot 99 100000 100000 (fun _ _ => (intVP .i64 (IntKind.wrap .i64 (x43 - 2)))),
      .slot 100 100000 100000 (fun _ _ => (lpVP p6 (0 + (IntKind.wrap .i64 (x43 - 2)).toNat * 1))),
      .slot 101 100000 100000 (fun _ _ => (intVP .u32 (x44.getD (IntKind.wrap .i64 (x43 - 2)).toNat 0))),
      .slot 102 100000 100000 (fun _ _ => (intVP .u32 (shr .u32 (x44.getD (IntKind.wrap .i64 (x43 - 2)).toNat 0) 10))),
      .slot 103 100000 100000 (fun _ _ => (intVP .u32 (bits .xor .u32 (bits .xor .u32 r62 r63) (shr .u32 (x44.getD (IntKind.wrap .i64 (x43 - 2)).toNat 0) 10)))),
      .slot 10 100000 100000 (fun _ _ => (intVP .u32 (bits .xor .u32 (bits .xor .u32 r62 r63) (shr .u32 (x44.getD (IntKind.wrap .i64 (x43 - 2)).toNat 0) 10))))] [0, 1, 2, 3, 4, 5, 6, 7, 8, 9, 10, 11, 12, 13, 14, 15, 16, 17] [⟨[4], [], [10], [], some 87⟩, ⟨[10], [], [11], [0], some 88⟩, ⟨[3, 11], [], [12], [0, 1], some 89⟩, ⟨[12, 9], [], [13], [0, 1, 2], some 90⟩, ⟨[13], [], [14], [0, 1, 2, 3], some 91⟩, ⟨[4], [], [15], [], some 92⟩, ⟨[15], [], [16], [5], some 93⟩, ⟨[3, 16], [], [17], [5, 6], some 94⟩, ⟨[17, 9], [], [18], [5, 6, 7], some 95⟩, ⟨[18], [], [19], [0, 1, 2, 3, 4, 5, 6, 7, 8], some 96⟩, ⟨[14, 19], [], [20], [0, 1, 2, 3, 4, 5, 6, 7, 8, 9], some 97⟩, ⟨[4], [], [21], [], some 98⟩, ⟨[21], [], [22], [11], some 99⟩, ⟨[3, 22], [], [23], [11, 12], some 100⟩, ⟨[23, 9], [], [24], [11, 12, 13], some 101⟩, ⟨[24], [], [25], [11, 12, 13, 14], some 102⟩, ⟨[20, 25], [], [26], [0, 1, 2, 3, 4, 5, 6, 7, 8, 9, 10, 11, 12, 13, 14, 15], some 103⟩, ⟨[26], [], [27], [0, 1, 2, 3, 4, 5, 6, 7, 8, 9, 10, 11, 12, 13, 14, 15, 16], some 10⟩] [0, 1, 2, 3, 4, 5, 27, 6, 7, 8, 9] mixed hn hG h (by kernel_rfl) ?_ ?_
            · exact ⟨⟨rfl, fun β => (GOk.plain (op_move (opt 0 rfl)) rfl)⟩, ⟨rfl, fun β => (GOk.plain (op_bin bin_sub (opt 0 rfl) (opc (ic (by decide)))) rfl)⟩, ⟨rfl, fun β => (GOk.plain (op_indexAddr_lb Tryd.underlying170 Tryd.sizeOf51 (opt 0 rfl) (opt 1 rfl) hv61) rfl)⟩, ⟨rfl, fun β => (GOk.plain (op_load_lbI (i := IntKind.wrap .i64 (x43 - 2)) [] [] 1 Tryd.isAgg51 (opt 0 rfl) rfl rfl hv61) rfl)⟩, ⟨rfl, fun β => (GOk.plain (op_call Tryd.call106 (ref01_turn_ok hr62) ⟨(opt 0 rfl), (opc (ic (by decide))), trivial⟩) rfl)⟩, ⟨rfl, fun β => (GOk.plain (op_move (opt 0 rfl)) rfl)⟩, ⟨rfl, fun β => (GOk.plain (op_bin bin_sub (opt 0 rfl) (opc (ic (by decide)))) rfl)⟩, ⟨rfl, fun β => (GOk.plain (op_indexAddr_lb Tryd.underlying170 Tryd.sizeOf51 (opt 0 rfl) (opt 1 rfl) hv61) rfl)⟩, ⟨rfl, fun β => (GOk.plain (op_load_lbI (i := IntKind.wrap .i64 (x43 - 2)) [] [] 1 Tryd.isAgg51 (opt 0 rfl) rfl rfl hv61) rfl)⟩, ⟨rfl, fun β => (GOk.plain (op_call Tryd.call106 (ref01_turn_ok hr63) ⟨(opt 0 rfl), (opc (ic (by decide))), trivial⟩) rfl)⟩, ⟨rfl, fun β => (GOk.plain (op_bin bin_xor (opt 0 rfl) (opt 1 rfl)) rfl)⟩, ⟨rfl, fun β => (GOk.plain (op_move (opt 0 rfl)) rfl)⟩, ⟨rfl, fun β => (GOk.plain (op_bin bin_sub (opt 0 rfl) (opc (ic (by decide)))) rfl)⟩, ⟨rfl, fun β => (GOk.plain (op_indexAddr_lb Tryd.underlying170 Tryd.sizeOf51 (opt 0 rfl) (opt 1 rfl) hv61) rfl)⟩, ⟨rfl, fun β => (GOk.plain (op_load_lbI (i := IntKind.wrap .i64 (x43 - 2)) [] [] 1 Tryd.isAgg51 (opt 0 rfl) rfl rfl hv61) rfl)⟩, ⟨rfl, fun β => (GOk.plain (op_bin (bin_shru rfl) (opt 0 rfl) (opc (ic (by decide)))) rfl)⟩, ⟨rfl, fun β => (GOk.plain (op_bin bin_xor (opt 0 rfl) (opt 1 rfl)) rfl)⟩, ⟨rfl, fun β => (GOk.plain (op_assign (opt 0 rfl)) rfl)⟩, trivial⟩
            clear h
            intro β a w h
            change SatL c [.slot 2 (lpVP p1 0), .slot 4 (lpVP p2 0), .slot 5 (lpVP p5 0), .slot 6 (lpVP p6 0), .slot 8 (intVP .i64 x43), .slot 9 (intVP .u32 (bits .xor .u32 (bits .xor .u32 r59 r60) (shr .u32 (x44.getD (IntKind.wrap .i64 (x43 - 15)).toNat 0) 3))), .slot 10 (intVP .u32 (bits .xor .u32 (bits .xor .u32 r62 r63) (shr .u32 (x44.getD (IntKind.wrap .i64 (x43 - 2)).toNat 0) 10))), .res (lb p1 150 [intsCk .u32 8 a_0]), .res (lb p2 150 [intsCk .u32 8 (List.replicate 8 0)]), .res (lb p5 170 [intsCk .u32 64 r4]), .res (lb p6 170 [intsCk .u32 64 x44])] a w at h
            clear β
            show Code.wp Tryd.prog _ _ a w
            obtain ⟨hv64, hF⟩ := ite_some hF
            obtain ⟨hv65, hF⟩ := ite_some hF
            obtain ⟨hv66, hF⟩ := ite_some hF
            refine region_do (n := 231) [.slot 104 100000 100000 (fun _ _ => (intVP .i64 x43)),
      .slot 105 100000 100000 (fun _ _ => (intVP .i64 x43)),
      .slot 106 100000 100000 (fun _ _ => (intVP .i64 (IntKind.wrap .i64 (x43 - 16)))),
      .slot 107 100000 100000 (fun _ _ => (lpVP p6 (0 + (IntKind.wrap .i64 (x43 - 16)).toNat * 1))),
      .slot 108 100000 100000 (fun _ _ => (intVP .u32 (x44.getD (IntKind.wrap .i64 (x43 - 16)).toNat 0))),
      .slot 109 100000 100000 (fun _ _ => (intVP .u32 (bits .xor .u32 (bits .xor .u32 r59 r60) (shr .u32 (x44.getD (IntKind.wrap .i64 (x43 - 15)).toNat 0) 3)))),
      .slot 110 100000 100000 (fun _ _ => (intVP .u32 (IntKind.wrap .u32 ((x44.getD (IntKind.wrap .i64 (x43 - 16)).toNat 0) + (bits .xor .u32 (bits .xor .u32 r59 r60) (shr .u32 (x44.getD (IntKind.wrap .i64 (x43 - 15)).toNat 0) 3)))))),
      .slot 111 100000 100000 (fun _ _ => (intVP .i64 x43)),
      .slot 112 100000 100000 (fun _ _ => (intVP .i64 (IntKind.wrap .i64 (x43 - 7)))),
      .slot 113 100000 100000 (fun _ _ => (lpVP p6 (0 + (IntKind.wrap .i64 (x43 - 7)).toNat * 1))),
      .slot 114 100000 100000 (fun _ _ => (intVP .u32 (x44.getD (IntKind.wrap .i64 (x43 - 7)).toNat 0))),
      .slot 115 100000 100000 (fun _ _ => (intVP .u32 (IntKind.wrap .u32 ((IntKind.wrap .u32 ((x44.getD (IntKind.wrap .i64 (x43 - 16)).toNat 0) + (bits .xor .u32 (bits .xor .u32 r59 r60) (shr .u32 (x44.getD (IntKind.wrap .i64 (x43 - 15)).toNat 0) 3)))) + (x44.getD (IntKind.wrap .i64 (x43 - 7)).toNat 0))))),
      .slot 116 100000 100000 (fun _ _ => (intVP .u32 (bits .xor .u32 (bits .xor .u32 r62 r63) (shr .u32 (x44.getD (IntKind.wrap .i64 (x43 - 2)).toNat 0) 10)))),
      .slot 117 100000 100000 (fun _ _ => (intVP .u32 (IntKind.wrap .u32 ((IntKind.wrap .u32 ((IntKind.wrap .u32 ((x44.getD (IntKind.wrap .i64 (x43 - 16)).toNat 0) + (bits .xor .u32 (bits .xor .u32 r59 r60) (shr .u32 (x44.getD (IntKind.wrap .i64 (x43 - 15)).toNat 0) 3)))) + (x44.getD (IntKind.wrap .i64 (x43 - 7)).toNat 0))) + (bits .xor .u32 (bits .xor .u32 r62 r63) (shr .u32 (x44.getD (IntKind.wrap .i64 (x43 - 2)).toNat 0) 10)))))),
      .slot 118 100000 100000 (fun _ _ => (lpVP p6 (0 + x43.toNat * 1))),
      .res 100000 100000 (fun _ _ => (lb p6 170 [intsCk .u32 64 (x44.set x43.toNat (IntKind.wrap .u32 ((IntKind.wrap .u32 ((IntKind.wrap .u32 ((x44.getD (IntKind.wrap .i64 (x43 - 16)).toNat 0) + (bits .xor .u32 (bits .xor .u32 r59 r60) (shr .u32 (x44.getD (IntKind.wrap .i64 (x43 - 15)).toNat 0) 3)))) + (x44.getD (IntKind.wrap .i64 (x43 - 7)).toNat 0))) + (bits .xor .u32 (bits .xor .u32 r62 r63) (shr .u32 (x44.getD (IntKind.wrap .i64 (x43 - 2)).toNat 0) 10)))))]))] [0, 1, 2, 3, 4, 5, 6, 7, 8, 9, 10, 11, 12, 13, 14, 15] [⟨[4], [], [11], [], some 104⟩, ⟨[4], [], [12], [], some 105⟩, ⟨[12], [], [13], [1], some 106⟩, ⟨[3, 13], [], [14], [1, 2], some 107⟩, ⟨[14, 10], [], [15], [1, 2, 3], some 108⟩, ⟨[5], [], [16], [], some 109⟩, ⟨[15, 16], [], [17], [1, 2, 3, 4, 5], some 110⟩, ⟨[4], [], [18], [], some 111⟩, ⟨[18], [], [19], [7], some 112⟩, ⟨[3, 19], [], [20], [7, 8], some 113⟩, ⟨[20, 10], [], [21], [7, 8, 9], some 114⟩, ⟨[17, 21], [], [22], [1, 2, 3, 4, 5, 6, 7, 8, 9, 10], some 115⟩, ⟨[6], [], [23], [], some 116⟩, ⟨[22, 23], [], [24], [1, 2, 3, 4, 5, 6, 7, 8, 9, 10, 11, 12], some 117⟩, ⟨[3, 11], [], [25], [0, 1, 2, 3, 4, 5, 6, 7, 8, 9, 10, 11, 12, 13], some 118⟩, ⟨[25, 24], [10], [26], [0, 1, 2, 3, 4, 5, 6, 7, 8, 9, 10, 11, 12, 13, 14], none⟩] [0, 1, 2, 3, 4, 7, 8, 9, 26] mixed hn hG h (by kernel_rfl) ?_ ?_
            · exact ⟨⟨rfl, fun β => (GOk.plain (op_move (opt 0 rfl)) rfl)⟩, ⟨rfl, fun β => (GOk.plain (op_move (opt 0 rfl)) rfl)⟩, ⟨rfl, fun β => (GOk.plain (op_bin bin_sub (opt 0 rfl) (opc (ic (by decide)))) rfl)⟩, ⟨rfl, fun β => (GOk.plain (op_indexAddr_lb Tryd.underlying170 Tryd.sizeOf51 (opt 0 rfl) (opt 1 rfl) hv64) rfl)⟩, ⟨rfl, fun β => (GOk.plain (op_load_lbI (i := IntKind.wrap .i64 (x43 - 16)) [] [] 1 Tryd.isAgg51 (opt 0 rfl) rfl rfl hv64) rfl)⟩, ⟨rfl, fun β => (GOk.plain (op_move (opt 0 rfl)) rfl)⟩, ⟨rfl, fun β => (GOk.plain (op_bin bin_add (opt 0 rfl) (opt 1 rfl)) rfl)⟩, ⟨rfl, fun β => (GOk.plain (op_move (opt 0 rfl)) rfl)⟩, ⟨rfl, fun β => (GOk.plain (op_bin bin_sub (opt 0 rfl) (opc (ic (by decide)))) rfl)⟩, ⟨rfl, fun β => (GOk.plain (op_indexAddr_lb Tryd.underlying170 Tryd.sizeOf51 (opt 0 rfl) (opt 1 rfl) hv65) rfl)⟩, ⟨rfl, fun β => (GOk.plain (op_load_lbI (i := IntKind.wrap .i64 (x43 - 7)) [] [] 1 Tryd.isAgg51 (opt 0 rfl) rfl rfl hv65) rfl)⟩, ⟨rfl, fun β => (GOk.plain (op_bin bin_add (opt 0 rfl) (opt 1 rfl)) rfl)⟩, ⟨rfl, fun β => (GOk.plain (op_move (opt 0 rfl)) rfl)⟩, ⟨rfl, fun β => (GOk.plain (op_bin bin_add (opt 0 rfl) (opt 1 rfl)) rfl)⟩, ⟨rfl, fun β => (GOk.plain (op_indexAddr_lb Tryd.underlying170 Tryd.sizeOf51 (opt 0 rfl) (opt 1 rfl) hv66) rfl)⟩, ⟨rfl, fun β => (GOk.plain (op_store_lbI (i := x43) [] [] Tryd.sizeOf51 (opt 0 rfl) (opt 1 rfl) rfl hv66) rfl)⟩, trivial⟩
            clear h
            intro β a w h
            change SatL c [.slot 2 (lpVP p1 0), .slot 4 (lpVP p2 0), .slot 5 (lpVP p5 0), .slot 6 (lpVP p6 0), .slot 8 (intVP .i64 x43), .res (lb p1 150 [intsCk .u32 8 a_0]), .res (lb p2 150 [intsCk .u32 8 (List.replicate 8 0)]), .res (lb p5 170 [intsCk .u32 64 r4]), .res (lb p6 170 [intsCk .u32 64 (x44.set x43.toNat (IntKind.wrap .u32 ((IntKind.wrap .u32 ((IntKind.wrap .u32 ((x44.getD (IntKind.wrap .i64 (x43 - 16)).toNat 0) + (bits .xor .u32 (bits .xor .u32 r59 r60) (shr .u32 (x44.getD (IntKind.wrap .i64 (x43 - 15)).toNat 0) 3)))) + (x44.getD (IntKind.wrap .i64 (x43 - 7)).toNat 0))) + (bits .xor .u32 (bits .xor .u32 r62 r63) (shr .u32 (x44.getD (IntKind.wrap .i64 (x43 - 2)).toNat 0) 10)))))])] a w at h
            clear β
            show Code.wp Tryd.prog _ _ a w
            refine region_do (n := 231) [.slot 68 100000 100000 (fun _ _ => (intVP .i64 x43)),
      .slot 69 100000 100000 (fun _ _ => (intVP .i64 (IntKind.wrap .i64 (x43 + 1)))),
      .slot 8 100000 100000 (fun _ _ => (intVP .i64 (IntKind.wrap .i64 (x43 + 1))))] [0, 1, 2] [⟨[4], [], [9], [], some 68⟩, ⟨[9], [], [10], [0], some 69⟩, ⟨[10], [4], [11], [0, 1], some 8⟩] [0, 1, 2, 3, 11, 5, 6, 7, 8] mixed hn hG h (by kernel_rfl) ?_ ?_
            · exact ⟨⟨rfl, fun β => (GOk.plain (op_move (opt 0 rfl)) rfl)⟩, ⟨rfl, fun β => (GOk.plain (op_bin bin_add (opt 0 rfl) (opc (ic (by decide)))) rfl)⟩, ⟨rfl, fun β => (GOk.drop _ (GOk.plain (op_assign (opt 0 rfl)) rfl))⟩, trivial⟩
            clear h
            intro β a w h
            change SatL c [.slot 2 (lpVP p1 0), .slot 4 (lpVP p2 0), .slot 5 (lpVP p5 0), .slot 6 (lpVP p6 0), .slot 8 (intVP .i64 (IntKind.wrap .i64 (x43 + 1))), .res (lb p1 150 [intsCk .u32 8 a_0]), .res (lb p2 150 [intsCk .u32 8 (List.replicate 8 0)]), .res (lb p5 170 [intsCk .u32 64 r4]), .res (lb p6 170 [intsCk .u32 64 (x44.set x43.toNat (IntKind.wrap .u32 ((IntKind.wrap .u32 ((IntKind.wrap .u32 ((x44.getD (IntKind.wrap .i64 (x43 - 16)).toNat 0) + (bits .xor .u32 (bits .xor .u32 r59 r60) (shr .u32 (x44.getD (IntKind.wrap .i64 (x43 - 15)).toNat 0) 3)))) + (x44.getD (IntKind.wrap .i64 (x43 - 7)).toNat 0))) + (bits .xor .u32 (bits .xor .u32 r62 r63) (shr .u32 (x44.getD (IntKind.wrap .i64 (x43 - 2)).toNat 0) 10)))))])] a w at h
            clear β
            obtain rfl := Option.some.inj hF
            exact ⟨rfl, h.sub [0, 1, 2, 3, 4, 5, 6, 7, 8] (by rfl)⟩
          · replace hF := ff_of hb57 hF
            replace h := h.sub [0, 1, 2, 3, 4, 6, 7, 8, 9] (by rfl)
            change SatL c [.slot 2 (lpVP p1 0), .slot 4 (lpVP p2 0), .slot 5 (lpVP p5 0), .slot 6 (lpVP p6 0), .slot 8 (intVP .i64 x43), .res (lb p1 150 [intsCk .u32 8 a_0]), .res (lb p2 150 [intsCk .u32 8 (List.replicate 8 0)]), .res (lb p5 170 [intsCk .u32 64 r4]), .res (lb p6 170 [intsCk .u32 64 x44])] a w at h
            refine wp_exit ?_
            obtain rfl := Option.some.inj hF
            exact ⟨exit_ne _, rfl, h.sub [0, 1, 2, 3, 5, 6, 7, 8] (by rfl)⟩
        · clear hl68
          intro e a w hq
          cases cr67 with
          | ret r69 =>
            obtain ⟨rfl, hq⟩ := hq
            obtain rfl := Option.some.inj hF
            exact ⟨.inl rfl, hq⟩
          | next s70 =>
            obtain ⟨y71, y72⟩ := s70
            obtain ⟨rfl, h⟩ := hq
            change SatL c [.slot 2 (lpVP p1 0), .slot 4 (lpVP p2 0), .slot 5 (lpVP p5 0), .slot 6 (lpVP p6 0), .res (lb p1 150 [intsCk .u32 8 a_0]), .res (lb p2 150 [intsCk .u32 8 (List.replicate 8 0)]), .res (lb p5 170 [intsCk .u32 64 r4]), .res (lb p6 170 [intsCk .u32 64 y72])] a w at h
            refine inBlock_at ?_
            show Code.wp Tryd.prog _ _ a w
            refine wp_seq ?_
            refine region_do (n := 231) [.slot 119 100000 100000 (fun _ _ => (lpVP p1 (0 + (0 : Int).toNat * 1))),
      .slot 120 100000 100000 (fun _ _ => (intVP .u32 (a_0.getD (0 : Int).toNat 0))),
      .slot 121 100000 100000 (fun _ _ => (lpVP p1 (0 + (1 : Int).toNat * 1))),
      .slot 122 100000 100000 (fun _ _ => (intVP .u32 (a_0.getD (1 : Int).toNat 0))),
      .slot 123 100000 100000 (fun _ _ => (lpVP p1 (0 + (2 : Int).toNat * 1))),
      .slot 124 100000 100000 (fun _ _ => (intVP .u32 (a_0.getD (2 : Int).toNat 0))),
      .slot 125 100000 100000 (fun _ _ => (lpVP p1 (0 + (3 : Int).toNat * 1))),
      .slot 126 100000 100000 (fun _ _ => (intVP .u32 (a_0.getD (3 : Int).toNat 0))),
      .slot 127 100000 100000 (fun _ _ => (lpVP p1 (0 + (4 : Int).toNat * 1))),
      .slot 128 100000 100000 (fun _ _ => (intVP .u32 (a_0.getD (4 : Int).toNat 0))),
      .slot 129 100000 100000 (fun _ _ => (lpVP p1 (0 + (5 : Int).toNat * 1))),
      .slot 130 100000 100000 (fun _ _ => (intVP .u32 (a_0.getD (5 : Int).toNat 0))),
      .slot 131 100000 100000 (fun _ _ => (lpVP p1 (0 + (6 : Int).toNat * 1))),
      .slot 132 100000 100000 (fun _ _ => (intVP .u32 (a_0.getD (6 : Int).toNat 0))),
      .slot 133 100000 100000 (fun _ _ => (lpVP p1 (0 + (7 : Int).toNat * 1))),
      .slot 134 100000 100000 (fun _ _ => (intVP .u32 (a_0.getD (7 : Int).toNat 0))),
      .slot 11 100000 100000 (fun _ _ => (intVP .u32 (a_0.getD (0 : Int).toNat 0))),
      .slot 12 100000 100000 (fun _ _ => (intVP .u32 (a_0.getD (1 : Int).toNat 0))),
      .slot 13 100000 100000 (fun _ _ => (intVP .u32 (a_0.getD (2 : Int).toNat 0))),
      .slot 14 100000 100000 (fun _ _ => (intVP .u32 (a_0.getD (3 : Int).toNat 0))),
      .slot 15 100000 100000 (fun _ _ => (intVP .u32 (a_0.getD (4 : Int).toNat 0))),
      .slot 16 100000 100000 (fun _ _ => (intVP .u32 (a_0.getD (5 : Int).toNat 0))),
      .slot 17 100000 100000 (fun _ _ => (intVP .u32 (a_0.getD (6 : Int).toNat 0))),
      .slot 18 100000 100000 (fun _ _ => (intVP .u32 (a_0.getD (7 : Int).toNat 0)))] [0, 1, 2, 3, 4, 5, 6, 7, 8, 9, 10, 11, 12, 13, 14, 15, 16, 17, 18, 19, 20, 21, 22, 23] [⟨[0], [], [8], [], some 119⟩, ⟨[8, 4], [], [9], [0], some 120⟩, ⟨[0], [], [10], [], some 121⟩, ⟨[10, 4], [], [11], [2], some 122⟩, ⟨[0], [], [12], [], some 123⟩, ⟨[12, 4], [], [13], [4], some 124⟩, ⟨[0], [], [14], [], some 125⟩, ⟨[14, 4], [], [15], [6], some 126⟩, ⟨[0], [], [16], [], some 127⟩, ⟨[16, 4], [], [17], [8], some 128⟩, ⟨[0], [], [18], [], some 129⟩, ⟨[18, 4], [], [19], [10], some 130⟩, ⟨[0], [], [20], [], some 131⟩, ⟨[20, 4], [], [21], [12], some 132⟩, ⟨[0], [], [22], [], some 133⟩, ⟨[22, 4], [], [23], [14], some 134⟩, ⟨[9], [], [24], [0, 1], some 11⟩, ⟨[11], [], [25], [0, 1, 2, 3, 16], some 12⟩, ⟨[13], [], [26], [0, 1, 2, 3, 4, 5, 16, 17], some 13⟩, ⟨[15], [], [27], [0, 1, 2, 3, 4, 5, 6, 7, 16, 17, 18], some 14⟩, ⟨[17], [], [28], [0, 1, 2, 3, 4, 5, 6, 7, 8, 9, 16, 17, 18, 19], some 15⟩, ⟨[19], [], [29], [0, 1, 2, 3, 4, 5, 6, 7, 8, 9, 10, 11, 16, 17, 18, 19, 20], some 16⟩, ⟨[21], [], [30], [0, 1, 2, 3, 4, 5, 6, 7, 8, 9, 10, 11, 12, 13, 16, 17, 18, 19, 20, 21], some 17⟩, ⟨[23], [], [31], [0, 1, 2, 3, 4, 5, 6, 7, 8, 9, 10, 11, 12, 13, 14, 15, 16, 17, 18, 19, 20, 21, 22], some 18⟩] [0, 1, 2, 3, 24, 25, 26, 27, 28, 29, 30, 31, 4, 5, 6, 7] mixed hn hG h (by kernel_rfl) ?_ ?_
            · exact ⟨⟨rfl, fun β => (GOk.plain (op_indexAddr_lb Tryd.underlying150 Tryd.sizeOf51 (opt 0 rfl) (opc (ic (by decide))) (by decide)) rfl)⟩, ⟨rfl, fun β => (GOk.plain (op_load_lbI (i := 0) [] [] 1 Tryd.isAgg51 (opt 0 rfl) rfl rfl (by decide)) rfl)⟩, ⟨rfl, fun β => (GOk.plain (op_indexAddr_lb Tryd.underlying150 Tryd.sizeOf51 (opt 0 rfl) (opc (ic (by decide))) (by decide)) rfl)⟩, ⟨rfl, fun β => (GOk.plain (op_load_lbI (i := 1) [] [] 1 Tryd.isAgg51 (opt 0 rfl) rfl rfl (by decide)) rfl)⟩, ⟨rfl, fun β => (GOk.plain (op_indexAddr_lb Tryd.underlying150 Tryd.sizeOf51 (opt 0 rfl) (opc (ic (by decide))) (by decide)) rfl)⟩, ⟨rfl, fun β => (GOk.plain (op_load_lbI (i := 2) [] [] 1 Tryd.isAgg51 (opt 0 rfl) rfl rfl (by decide)) rfl)⟩, ⟨rfl, fun β => (GOk.plain (op_indexAddr_lb Tryd.underlying150 Tryd.sizeOf51 (opt 0 rfl) (opc (ic (by decide))) (by decide)) rfl)⟩, ⟨rfl, fun β => (GOk.plain (op_load_lbI (i := 3) [] [] 1 Tryd.isAgg51 (opt 0 rfl) rfl rfl (by decide)) rfl)⟩, ⟨rfl, fun β => (GOk.plain (op_indexAddr_lb Tryd.underlying150 Tryd.sizeOf51 (opt 0 rfl) (opc (ic (by decide))) (by decide)) rfl)⟩, ⟨rfl, fun β => (GOk.plain (op_load_lbI (i := 4) [] [] 1 Tryd.isAgg51 (opt 0 rfl) rfl rfl (by decide)) rfl)⟩, ⟨rfl, fun β => (GOk.plain (op_indexAddr_lb Tryd.underlying150 Tryd.sizeOf51 (opt 0 rfl) (opc (ic (by decide))) (by decide)) rfl)⟩, ⟨rfl, fun β => (GOk.plain (op_load_lbI (i := 5) [] [] 1 Tryd.isAgg51 (opt 0 rfl) rfl rfl (by decide)) rfl)⟩, ⟨rfl, fun β => (GOk.plain (op_indexAddr_lb Tryd.underlying150 Tryd.sizeOf51 (opt 0 rfl) (opc (ic (by decide))) (by decide)) rfl)⟩, ⟨rfl, fun β => (GOk.plain (op_load_lbI (i := 6) [] [] 1 Tryd.isAgg51 (opt 0 rfl) rfl rfl (by decide)) rfl)⟩, ⟨rfl, fun β => (GOk.plain (op_indexAddr_lb Tryd.underlying150 Tryd.sizeOf51 (opt 0 rfl) (opc (ic (by decide))) (by decide)) rfl)⟩, ⟨rfl, fun β => (GOk.plain (op_load_lbI (i := 7) [] [] 1 Tryd.isAgg51 (opt 0 rfl) rfl rfl (by decide)) rfl)⟩, ⟨rfl, fun β => (GOk.plain (op_assign (opt 0 rfl)) rfl)⟩, ⟨rfl, fun β => (GOk.plain (op_assign (opt 0 rfl)) rfl)⟩, ⟨rfl, fun β => (GOk.plain (op_assign (opt 0 rfl)) rfl)⟩, ⟨rfl, fun β => (GOk.plain (op_assign (opt 0 rfl)) rfl)⟩, ⟨rfl, fun β => (GOk.plain (op_assign (opt 0 rfl)) rfl)⟩, ⟨rfl, fun β => (GOk.plain (op_assign (opt 0 rfl)) rfl)⟩, ⟨rfl, fun β => (GOk.plain (op_assign (opt 0 rfl)) rfl)⟩, ⟨rfl, fun β => (GOk.plain (op_assign (opt 0 rfl)) rfl)⟩, trivial⟩
            clear h
            intro β a w h
            change SatL c [.slot 2 (lpVP p1 0), .slot 4 (lpVP p2 0), .slot 5 (lpVP p5 0), .slot 6 (lpVP p6 0), .slot 11 (intVP .u32 (a_0.getD (0 : Int).toNat 0)), .slot 12 (intVP .u32 (a_0.getD (1 : Int).toNat 0)), .slot 13 (intVP .u32 (a_0.getD (2 : Int).toNat 0)), .slot 14 (intVP .u32 (a_0.getD (3 : Int).toNat 0)), .slot 15 (intVP .u32 (a_0.getD (4 : Int).toNat 0)), .slot 16 (intVP .u32 (a_0.getD (5 : Int).toNat 0)), .slot 17 (intVP .u32 (a_0.getD (6 : Int).toNat 0)), .slot 18 (intVP .u32 (a_0.getD (7 : Int).toNat 0)), .res (lb p1 150 [intsCk .u32 8 a_0]), .res (lb p2 150 [intsCk .u32 8 (List.replicate 8 0)]), .res (lb p5 170 [intsCk .u32 64 r4]), .res (lb p6 170 [intsCk .u32 64 y72])] a w at h
            clear β
            show Code.wp Tryd.prog _ _ a w
            refine wp_seq ?_
            refine wp_seq ?_
            refine region_do (n := 231) [.slot 19 100000 100000 (fun _ _ => (intVP .i64 0))] [0] [⟨[], [], [16], [], some 19⟩] [0, 1, 2, 3, 4, 5, 6, 7, 8, 9, 10, 11, 16, 12, 13, 14, 15] mixed hn hG h (by kernel_rfl) ?_ ?_
            · exact ⟨⟨rfl, fun β => (GOk.plain (op_assign (opc (ic (by decide)))) rfl)⟩, trivial⟩
            clear h
            intro β a w h
            change SatL c [.slot 2 (lpVP p1 0), .slot 4 (lpVP p2 0), .slot 5 (lpVP p5 0), .slot 6 (lpVP p6 0), .slot 11 (intVP .u32 (a_0.getD (0 : Int).toNat 0)), .slot 12 (intVP .u32 (a_0.getD (1 : Int).toNat 0)), .slot 13 (intVP .u32 (a_0.getD (2 : Int).toNat 0)), .slot 14 (intVP .u32 (a_0.getD (3 : Int).toNat 0)), .slot 15 (intVP .u32 (a_0.getD (4 : Int).toNat 0)), .slot 16 (intVP .u32 (a_0.getD (5 : Int).toNat 0)), .slot 17 (intVP .u32 (a_0.getD (6 : Int).toNat 0)), .slot 18 (intVP .u32 (a_0.getD (7 : Int).toNat 0)), .slot 19 (intVP .i64 0), .res (lb p1 150 [intsCk .u32 8 a_0]), .res (lb p2 150 [intsCk .u32 8 (List.replicate 8 0)]), .res (lb p5 170 [intsCk .u32 64 r4]), .res (lb p6 170 [intsCk .u32 64 y72])] a w at h
            clear β
            show Code.wp Tryd.prog _ _ a w
            refine wp_block ?_
            obtain ⟨cr114, hl115, hF⟩ := bind_some hF
            refine wp_mono (wp_loopN (R := (List Int)) (S := Int × Int × Int × Int × Int × Int × Int × Int × Int) (fun s a w => SatL c [.slot 2 (lpVP p1 0), .slot 4 (lpVP p2 0), .slot 5 (lpVP p5 0), .slot 6 (lpVP p6 0), .slot 11 (intVP .u32 s.1), .slot 12 (intVP .u32 s.2.1), .slot 13 (intVP .u32 s.2.2.1), .slot 14 (intVP .u32 s.2.2.2.1), .slot 15 (intVP .u32 s.2.2.2.2.1), .slot 16 (intVP .u32 s.2.2.2.2.2.1), .slot 17 (intVP .u32 s.2.2.2.2.2.2.1), .slot 18 (intVP .u32 s.2.2.2.2.2.2.2.1), .slot 19 (intVP .i64 s.2.2.2.2.2.2.2.2), .res (lb p1 150 [intsCk .u32 8 a_0]), .res (lb p2 150 [intsCk .u32 8 (List.replicate 8 0)]), .res (lb p5 170 [intsCk .u32 64 r4]), .res (lb p6 170 [intsCk .u32 64 y72])] a w) (fun res e a w => match res with | .next s => e = .exit 4 ∧ SatL c [.slot 2 (lpVP p1 0), .slot 4 (lpVP p2 0), .slot 11 (intVP .u32 s.1), .slot 12 (intVP .u32 s.2.1), .slot 13 (intVP .u32 s.2.2.1), .slot 14 (intVP .u32 s.2.2.2.1), .slot 15 (intVP .u32 s.2.2.2.2.1), .slot 16 (intVP .u32 s.2.2.2.2.2.1), .slot 17 (intVP .u32 s.2.2.2.2.2.2.1), .slot 18 (intVP .u32 s.2.2.2.2.2.2.2.1), .res (lb p1 150 [intsCk .u32 8 a_0]), .res (lb p2 150 [intsCk .u32 8 (List.replicate 8 0)])] a w | .ret r => e = .ret ∧ RetOk Tryd.prog Tryd.f101 c (aggVP [intsCk .u32 8 r]) (fun _ => []) a w) ?_ _ (a_0.getD (0 : Int).toNat 0, a_0.getD (1 : Int).toNat 0, a_0.getD (2 : Int).toNat 0, a_0.getD (3 : Int).toNat 0, a_0.getD (4 : Int).toNat 0, a_0.getD (5 : Int).toNat 0, a_0.getD (6 : Int).toNat 0, a_0.getD (7 : Int).toNat 0, 0) _ _ _ (h.sub [0, 1, 2, 3, 4, 5, 6, 7, 8, 9, 10, 11, 12, 13, 14, 15, 16] (by rfl)) hl115) ?_
            · clear hl115 hF h
              intro s a w o h hF
              obtain ⟨x80, x81, x82, x83, x84, x85, x86, x87, x88⟩ := s
              change ref01_Block.b3 r4 y72 x80 x81 x82 x83 x84 x85 x86 x87 x88 = some o at hF
              unfold ref01_Block.b3 at hF
              change SatL c [.slot 2 (lpVP p1 0), .slot 4 (lpVP p2 0), .slot 5 (lpVP p5 0), .slot 6 (lpVP p6 0), .slot 11 (intVP .u32 x80), .slot 12 (intVP .u32 x81), .slot 13 (intVP .u32 x82), .slot 14 (intVP .u32 x83), .slot 15 (intVP .u32 x84), .slot 16 (intVP .u32 x85), .slot 17 (intVP .u32 x86), .slot 18 (intVP .u32 x87), .slot 19 (intVP .i64 x88), .res (lb p1 150 [intsCk .u32 8 a_0]), .res (lb p2 150 [intsCk .u32 8 (List.replicate 8 0)]), .res (lb p5 170 [intsCk .u32 64 r4]), .res (lb p6 170 [intsCk .u32 64 y72])] a w at h
              refine wp_seq ?_
              refine wp_seq ?_
              refine region_do (n := 231) [.slot 135 100000 100000 (fun _ _ => (intVP .i64 x88)),
      .slot 136 100000 100000 (fun _ _ => (boolVP (decide (x88 < (64 : Int)))))] [0, 1] [⟨[12], [], [17], [], some 135⟩, ⟨[17], [], [18], [0], some 136⟩] [0, 1, 2, 3, 4, 5, 6, 7, 8, 9, 10, 11, 12, 18, 13, 14, 15, 16] mixed hn hG h (by kernel_rfl) ?_ ?_
              · exact ⟨⟨rfl, fun β => (GOk.plain (op_move (opt 0 rfl)) rfl)⟩, ⟨rfl, fun β => (GOk.plain (op_bin bin_lss (opt 0 rfl) (opc (ic (by decide)))) rfl)⟩, trivial⟩
              clear h
              intro β a w h
              change SatL c [.slot 2 (lpVP p1 0), .slot 4 (lpVP p2 0), .slot 5 (lpVP p5 0), .slot 6 (lpVP p6 0), .slot 11 (intVP .u32 x80), .slot 12 (intVP .u32 x81), .slot 13 (intVP .u32 x82), .slot 14 (intVP .u32 x83), .slot 15 (intVP .u32 x84), .slot 16 (intVP .u32 x85), .slot 17 (intVP .u32 x86), .slot 18 (intVP .u32 x87), .slot 19 (intVP .i64 x88), .slot 136 (boolVP (decide (x88 < (64 : Int)))), .res (lb p1 150 [intsCk .u32 8 a_0]), .res (lb p2 150 [intsCk .u32 8 (List.replicate 8 0)]), .res (lb p5 170 [intsCk .u32 64 r4]), .res (lb p6 170 [intsCk .u32 64 y72])] a w at h
              clear β
              show Code.wp Tryd.prog _ _ a w
              refine cond_L h 13 rfl (fun hb106 => ?_) (fun hb106 => ?_)
              · replace hF := tt_of hb106 hF
                replace h := h.sub [0, 1, 2, 3, 4, 5, 6, 7, 8, 9, 10, 11, 12, 14, 15, 16, 17] (by rfl)
                change SatL c [.slot 2 (lpVP p1 0), .slot 4 (lpVP p2 0), .slot 5 (lpVP p5 0), .slot 6 (lpVP p6 0), .slot 11 (intVP .u32 x80), .slot 12 (intVP .u32 x81), .slot 13 (intVP .u32 x82), .slot 14 (intVP .u32 x83), .slot 15 (intVP .u32 x84), .slot 16 (intVP .u32 x85), .slot 17 (intVP .u32 x86), .slot 18 (intVP .u32 x87), .slot 19 (intVP .i64 x88), .res (lb p1 150 [intsCk .u32 8 a_0]), .res (lb p2 150 [intsCk .u32 8 (List.replicate 8 0)]), .res (lb p5 170 [intsCk .u32 64 r4]), .res (lb p6 170 [intsCk .u32 64 y72])] a w at h
                refine wp_skip ?_
                show Code.wp Tryd.prog _ _ a w
                refine wp_seq ?_
                refine wp_block ?_
                refine wp_seq ?_
                obtain ⟨r107, hr107, hF⟩ := bind_some hF
                obtain ⟨r108, hr108, hF⟩ := bind_some hF
                obtain ⟨r109, hr109, hF⟩ := bind_some hF
                obtain ⟨hv110, hF⟩ := ite_some hF
                refine region_do (n := 231) [.slot 139 100000 100000 (fun _ _ => (intVP .u32 x87)),
      .slot 140 100000 100000 (fun _ _ => (intVP .u32 x84)),
      .slot 141 100000 100000 (fun _ _ => (intVP .u32 r107)),
      .slot 142 100000 100000 (fun _ _ => (intVP .u32 x84)),
      .slot 143 100000 100000 (fun _ _ => (intVP .u32 r108)),
      .slot 144 100000 100000 (fun _ _ => (intVP .u32 (bits .xor .u32 r107 r108))),
      .slot 145 100000 100000 (fun _ _ => (intVP .u32 x84)),
      .slot 146 100000 100000 (fun _ _ => (intVP .u32 r109)),
      .slot 147 100000 100000 (fun _ _ => (intVP .u32 (bits .xor .u32 (bits .xor .u32 r107 r108) r109))),
      .slot 148 100000 100000 (fun _ _ => (intVP .u32 (IntKind.wrap .u32 (x87 + (bits .xor .u32 (bits .xor .u32 r107 r108) r109))))),
      .slot 149 100000 100000 (fun _ _ => (intVP .u32 x84)),
      .slot 150 100000 100000 (fun _ _ => (intVP .u32 x85)),
      .slot 151 100000 100000 (fun _ _ => (intVP .u32 (bits .and .u32 x84 x85))),
      .slot 152 100000 100000 (fun _ _ => (intVP .u32 x84)),
      .slot 153 100000 100000 (fun _ _ => (intVP .u32 (bits .xor .u32 4294967295 x84))),
      .slot 154 100000 100000 (fun _ _ => (intVP .u32 x86)),
      .slot 155 100000 100000 (fun _ _ => (intVP .u32 (bits .and .u32 (bits .xor .u32 4294967295 x84) x86))),
      .slot 156 100000 100000 (fun _ _ => (intVP .u32 (bits .xor .u32 (bits .and .u32 x84 x85) (bits .and .u32 (bits .xor .u32 4294967295 x84) x86)))),
      .slot 157 100000 100000 (fun _ _ => (intVP .u32 (IntKind.wrap .u32 ((IntKind.wrap .u32 (x87 + (bits .xor .u32 (bits .xor .u32 r107 r108) r109))) + (bits .xor .u32 (bits .and .u32 x84 x85) (bits .and .u32 (bits .xor .u32 4294967295 x84) x86)))))),
      .slot 158 100000 100000 (fun _ _ => (intVP .i64 x88)),
      .slot 159 100000 100000 (fun _ _ => (lpVP p5 (0 + x88.toNat * 1))),
      .slot 160 100000 100000 (fun _ _ => (intVP .u32 (r4.getD x88.toNat 0))),
      .slot 161 100000 100000 (fun _ _ => (intVP .u32 (IntKind.wrap .u32 ((IntKind.wrap .u32 ((IntKind.wrap .u32 (x87 + (bits .xor .u32 (bits .xor .u32 r107 r108) r109))) + (bits .xor .u32 (bits .and .u32 x84 x85) (bits .and .u32 (bits .xor .u32 4294967295 x84) x86)))) + (r4.getD x88.toNat 0))))),
      .slot 162 100000 100000 (fun _ _ => (intVP .i64 x88)),
      .slot 163 100000 100000 (fun _ _ => (lpVP p6 (0 + x88.toNat * 1))),
      .slot 164 100000 100000 (fun _ _ => (intVP .u32 (y72.getD x88.toNat 0))),
      .slot 165 100000 100000 (fun _ _ => (intVP .u32 (IntKind.wrap .u32 ((IntKind.wrap .u32 ((IntKind.wrap .u32 ((IntKind.wrap .u32 (x87 + (bits .xor .u32 (bits .xor .u32 r107 r108) r109))) + (bits .xor .u32 (bits .and .u32 x84 x85) (bits .and .u32 (bits .xor .u32 4294967295 x84) x86)))) + (r4.getD x88.toNat 0))) + (y72.getD x88.toNat 0))))),
      .slot 20 100000 100000 (fun _ _ => (intVP .u32 (IntKind.wrap .u32 ((IntKind.wrap .u32 ((IntKind.wrap .u32 ((IntKind.wrap .u32 (x87 + (bits .xor .u32 (bits .xor .u32 r107 r108) r109))) + (bits .xor .u32 (bits .and .u32 x84 x85) (bits .and .u32 (bits .xor .u32 4294967295 x84) x86)))) + (r4.getD x88.toNat 0))) + (y72.getD x88.toNat 0)))))] [0, 1, 2, 3, 4, 5, 6, 7, 8, 9, 10, 11, 12, 13, 14, 15, 16, 17, 18, 19, 20, 21, 22, 23, 24, 25, 26, 27] [⟨[11], [], [17], [], some 139⟩, ⟨[8], [], [18], [], some 140⟩, ⟨[18], [], [19], [1], some 141⟩, ⟨[8], [], [20], [], some 142⟩, ⟨[20], [], [21], [1, 2, 3], some 143⟩, ⟨[19, 21], [], [22], [1, 2, 3, 4], some 144⟩, ⟨[8], [], [23], [], some 145⟩, ⟨[23], [], [24], [1, 2, 3, 4, 6], some 146⟩, ⟨[22, 24], [], [25], [1, 2, 3, 4, 5, 6, 7], some 147⟩, ⟨[17, 25], [], [26], [0, 1, 2, 3, 4, 5, 6, 7, 8], some 148⟩, ⟨[8], [], [27], [], some 149⟩, ⟨[9], [], [28], [], some 150⟩, ⟨[27, 28], [], [29], [10, 11], some 151⟩, ⟨[8], [], [30], [], some 152⟩, ⟨[30], [], [31], [13], some 153⟩, ⟨[10], [], [32], [], some 154⟩, ⟨[31, 32], [], [33], [13, 14, 15], some 155⟩, ⟨[29, 33], [], [34], [10, 11, 12, 13, 14, 15, 16], some 156⟩, ⟨[26, 34], [], [35], [0, 1, 2, 3, 4, 5, 6, 7, 8, 9, 10, 11, 12, 13, 14, 15, 16, 17], some 157⟩, ⟨[12], [], [36], [], some 158⟩, ⟨[2, 36], [], [37], [19], some 159⟩, ⟨[37, 15], [], [38], [19, 20], some 160⟩, ⟨[35, 38], [], [39], [0, 1, 2, 3, 4, 5, 6, 7, 8, 9, 10, 11, 12, 13, 14, 15, 16, 17, 18, 19, 20, 21], some 161⟩, ⟨[12], [], [40], [], some 162⟩, ⟨[3, 40], [], [41], [23], some 163⟩, ⟨[41, 16], [], [42], [23, 24], some 164⟩, ⟨[39, 42], [], [43], [0, 1, 2, 3, 4, 5, 6, 7, 8, 9, 10, 11, 12, 13, 14, 15, 16, 17, 18, 19, 20, 21, 22, 23, 24, 25], some 165⟩, ⟨[43], [], [44], [0, 1, 2, 3, 4, 5, 6, 7, 8, 9, 10, 11, 12, 13, 14, 15, 16, 17, 18, 19, 20, 21, 22, 23, 24, 25, 26], some 20⟩] [0, 1, 2, 3, 4, 5, 6, 7, 8, 9, 10, 12, 44, 13, 14, 15, 16] mixed hn hG h (by kernel_rfl) ?_ ?_
                · exact ⟨⟨rfl, fun β => (GOk.plain (op_move (opt 0 rfl)) rfl)⟩, ⟨rfl, fun β => (GOk.plain (op_move (opt 0 rfl)) rfl)⟩, ⟨rfl, fun β => (GOk.plain (op_call Tryd.call106 (ref01_turn_ok hr107) ⟨(opt 0 rfl), (opc (ic (by decide))), trivial⟩) rfl)⟩, ⟨rfl, fun β => (GOk.plain (op_move (opt 0 rfl)) rfl)⟩, ⟨rfl, fun β => (GOk.plain (op_call Tryd.call106 (ref01_turn_ok hr108) ⟨(opt 0 rfl), (opc (ic (by decide))), trivial⟩) rfl)⟩, ⟨rfl, fun β => (GOk.plain (op_bin bin_xor (opt 0 rfl) (opt 1 rfl)) rfl)⟩, ⟨rfl, fun β => (GOk.plain (op_move (opt 0 rfl)) rfl)⟩, ⟨rfl, fun β => (GOk.plain (op_call Tryd.call106 (ref01_turn_ok hr109) ⟨(opt 0 rfl), (opc (ic (by decide))), trivial⟩) rfl)⟩, ⟨rfl, fun β => (GOk.plain (op_bin bin_xor (opt 0 rfl) (opt 1 rfl)) rfl)⟩, ⟨rfl, fun β => (GOk.plain (op_bin bin_add (opt 0 rfl) (opt 1 rfl)) rfl)⟩, ⟨rfl, fun β => (GOk.plain (op_move (opt 0 rfl)) rfl)⟩, ⟨rfl, fun β => (GOk.plain (op_move (opt 0 rfl)) rfl)⟩, ⟨rfl, fun β => (GOk.plain (op_bin bin_and (opt 0 rfl) (opt 1 rfl)) rfl)⟩, ⟨rfl, fun β => (GOk.plain (op_move (opt 0 rfl)) rfl)⟩, ⟨rfl, fun β => (GOk.plain (op_bin bin_xor (opc (ic (by decide))) (opt 0 rfl)) rfl)⟩, ⟨rfl, fun β => (GOk.plain (op_move (opt 0 rfl)) rfl)⟩, ⟨rfl, fun β => (GOk.plain (op_bin bin_and (opt 0 rfl) (opt 1 rfl)) rfl)⟩, ⟨rfl, fun β => (GOk.plain (op_bin bin_xor (opt 0 rfl) (opt 1 rfl)) rfl)⟩, ⟨rfl, fun β => (GOk.plain (op_bin bin_add (opt 0 rfl) (opt 1 rfl)) rfl)⟩, ⟨rfl, fun β => (GOk.plain (op_move (opt 0 rfl)) rfl)⟩, ⟨rfl, fun β => (GOk.plain (op_indexAddr_lb Tryd.underlying170 Tryd.sizeOf51 (opt 0 rfl) (opt 1 rfl) hv110) rfl)⟩, ⟨rfl, fun β => (GOk.plain (op_load_lbI (i := x88) [] [] 1 Tryd.isAgg51 (opt 0 rfl) rfl rfl hv110) rfl)⟩, ⟨rfl, fun β => (GOk.plain (op_bin bin_add (opt 0 rfl) (opt 1 rfl)) rfl)⟩, ⟨rfl, fun β => (GOk.plain (op_move (opt 0 rfl)) rfl)⟩, ⟨rfl, fun β => (GOk.plain (op_indexAddr_lb Tryd.underlying170 Tryd.sizeOf51 (opt 0 rfl) (opt 1 rfl) hv110) rfl)⟩, ⟨rfl, fun β => (GOk.plain (op_load_lbI (i := x88) [] [] 1 Tryd.isAgg51 (opt 0 rfl) rfl rfl hv110) rfl)⟩, ⟨rfl, fun β => (GOk.plain (op_bin bin_add (opt 0 rfl) (opt 1 rfl)) rfl)⟩, ⟨rfl, fun β => (GOk.plain (op_assign (opt 0 rfl)) rfl)⟩, trivial⟩
                clear h
                intro β a w h
                change SatL c [.slot 2 (lpVP p1 0), .slot 4 (lpVP p2 0), .slot 5 (lpVP p5 0), .slot 6 (lpVP p6 0), .slot 11 (intVP .u32 x80), .slot 12 (intVP .u32 x81), .slot 13 (intVP .u32 x82), .slot 14 (intVP .u32 x83), .slot 15 (intVP .u32 x84), .slot 16 (intVP .u32 x85), .slot 17 (intVP .u32 x86), .slot 19 (intVP .i64 x88), .slot 20 (intVP .u32 (IntKind.wrap .u32 ((IntKind.wrap .u32 ((IntKind.wrap .u32 ((IntKind.wrap .u32 (x87 + (bits .xor .u32 (bits .xor .u32 r107 r108) r109))) + (bits .xor .u32 (bits .and .u32 x84 x85) (bits .and .u32 (bits .xor .u32 4294967295 x84) x86)))) + (r4.getD x88.toNat 0))) + (y72.getD x88.toNat 0)))), .res (lb p1 150 [intsCk .u32 8 a_0]), .res (lb p2 150 [intsCk .u32 8 (List.replicate 8 0)]), .res (lb p5 170 [intsCk .u32 64 r4]), .res (lb p6 170 [intsCk .u32 64 y72])] a w at h
                clear β
                show Code.wp Tryd.prog _ _ a w
                refine wp_seq ?_
                obtain ⟨r111, hr111, hF⟩ := bind_some hF
                obtain ⟨r112, hr112, hF⟩ := bind_some hF
                obtain ⟨r113, hr113, hF⟩ := bind_some hF
                refine region_do (n := 231) [.slot 166 100000 100000 (fun _ _ => (intVP .u32 x80)),
      .slot 167 100000 100000 (fun _ _ => (intVP .u32 r111)),
      .slot 168 100000 100000 (fun _ _ => (intVP .u32 x80)),
      .slot 169 100000 100000 (fun _ _ => (intVP .u32 r112)),
      .slot 170 100000 100000 (fun _ _ => (intVP .u32 (bits .xor .u32 r111 r112))),
      .slot 171 100000 100000 (fun _ _ => (intVP .u32 x80)),
      .slot 172 100000 100000 (fun _ _ => (intVP .u32 r113)),
      .slot 173 100000 100000 (fun _ _ => (intVP .u32 (bits .xor .u32 (bits .xor .u32 r111 r112) r113))),
      .slot 174 100000 100000 (fun _ _ => (intVP .u32 x80)),
      .slot 175 100000 100000 (fun _ _ => (intVP .u32 x81)),
      .slot 176 100000 100000 (fun _ _ => (intVP .u32 (bits .and .u32 x80 x81))),
      .slot 177 100000 100000 (fun _ _ => (intVP .u32 x80)),
      .slot 178 100000 100000 (fun _ _ => (intVP .u32 x82)),
      .slot 179 100000 100000 (fun _ _ => (intVP .u32 (bits .and .u32 x80 x82))),
      .slot 180 100000 100000 (fun _ _ => (intVP .u32 (bits .xor .u32 (bits .and .u32 x80 x81) (bits .and .u32 x80 x82)))),
      .slot 181 100000 100000 (fun _ _ => (intVP .u32 x81)),
      .slot 182 100000 100000 (fun _ _ => (intVP .u32 x82)),
      .slot 183 100000 100000 (fun _ _ => (intVP .u32 (bits .and .u32 x81 x82))),
      .slot 184 100000 100000 (fun _ _ => (intVP .u32 (bits .xor .u32 (bits .xor .u32 (bits .and .u32 x80 x81) (bits .and .u32 x80 x82)) (bits .and .u32 x81 x82)))),
      .slot 185 100000 100000 (fun _ _ => (intVP .u32 (IntKind.wrap .u32 ((bits .xor .u32 (bits .xor .u32 r111 r112) r113) + (bits .xor .u32 (bits .xor .u32 (bits .and .u32 x80 x81) (bits .and .u32 x80 x82)) (bits .and .u32 x81 x82)))))),
      .slot 21 100000 100000 (fun _ _ => (intVP .u32 (IntKind.wrap .u32 ((bits .xor .u32 (bits .xor .u32 r111 r112) r113) + (bits .xor .u32 (bits .xor .u32 (bits .and .u32 x80 x81) (bits .and .u32 x80 x82)) (bits .and .u32 x81 x82))))))] [0, 1, 2, 3, 4, 5, 6, 7, 8, 9, 10, 11, 12, 13, 14, 15, 16, 17, 18, 19, 20] [⟨[4], [], [17], [], some 166⟩, ⟨[17], [], [18], [0], some 167⟩, ⟨[4], [], [19], [0, 1], some 168⟩, ⟨[19], [], [20], [0, 1, 2], some 169⟩, ⟨[18, 20], [], [21], [0, 1, 2, 3], some 170⟩, ⟨[4], [], [22], [0, 1, 2, 3, 4], some 171⟩, ⟨[22], [], [23], [0, 1, 2, 3, 4, 5], some 172⟩, ⟨[21, 23], [], [24], [0, 1, 2, 3, 4, 5, 6], some 173⟩, ⟨[4], [], [25], [0, 1, 2, 3, 4, 5, 6, 7], some 174⟩, ⟨[5], [], [26], [0, 1, 2, 3, 4, 5, 6, 7, 8], some 175⟩, ⟨[25, 26], [], [27], [0, 1, 2, 3, 4, 5, 6, 7, 8, 9], some 176⟩, ⟨[4], [], [28], [0, 1, 2, 3, 4, 5, 6, 7, 8, 9, 10], some 177⟩, ⟨[6], [], [29], [0, 1, 2, 3, 4, 5, 6, 7, 8, 9, 10, 11], some 178⟩, ⟨[28, 29], [], [30], [0, 1, 2, 3, 4, 5, 6, 7, 8, 9, 10, 11, 12], some 179⟩, ⟨[27, 30], [], [31], [0, 1, 2, 3, 4, 5, 6, 7, 8, 9, 10, 11, 12, 13], some 180⟩, ⟨[5], [], [32], [0, 1, 2, 3, 4, 5, 6, 7, 8, 9, 10, 11, 12, 13, 14], some 181⟩, ⟨[6], [], [33], [0, 1, 2, 3, 4, 5, 6, 7, 8, 9, 10, 11, 12, 13, 14, 15], some 182⟩, ⟨[32, 33], [], [34], [0, 1, 2, 3, 4, 5, 6, 7, 8, 9, 10, 11, 12, 13, 14, 15, 16], some 183⟩, ⟨[31, 34], [], [35], [0, 1, 2, 3, 4, 5, 6, 7, 8, 9, 10, 11, 12, 13, 14, 15, 16, 17], some 184⟩, ⟨[24, 35], [], [36], [0, 1, 2, 3, 4, 5, 6, 7, 8, 9, 10, 11, 12, 13, 14, 15, 16, 17, 18], some 185⟩, ⟨[36], [], [37], [0, 1, 2, 3, 4, 5, 6, 7, 8, 9, 10, 11, 12, 13, 14, 15, 16, 17, 18, 19], some 21⟩] [0, 1, 2, 3, 4, 5, 6, 7, 8, 9, 10, 11, 12, 37, 13, 14, 15, 16] mixed hn hG h (by kernel_rfl) ?_ ?_
                · exact ⟨⟨rfl, fun β => (GOk.plain (op_move (opt 0 rfl)) rfl)⟩, ⟨rfl, fun β => (GOk.plain (op_call Tryd.call106 (ref01_turn_ok hr111) ⟨(opt 0 rfl), (opc (ic (by decide))), trivial⟩) rfl)⟩, ⟨rfl, fun β => (GOk.plain (op_move (opt 0 rfl)) rfl)⟩, ⟨rfl, fun β => (GOk.plain (op_call Tryd.call106 (ref01_turn_ok hr112) ⟨(opt 0 rfl), (opc (ic (by decide))), trivial⟩) rfl)⟩, ⟨rfl, fun β => (GOk.plain (op_bin bin_xor (opt 0 rfl) (opt 1 rfl)) rfl)⟩, ⟨rfl, fun β => (GOk.plain (op_move (opt 0 rfl)) rfl)⟩, ⟨rfl, fun β => (GOk.plain (op_call Tryd.call106 (ref01_turn_ok hr113) ⟨(opt 0 rfl), (opc (ic (by decide))), trivial⟩) rfl)⟩, ⟨rfl, fun β => (GOk.plain (op_bin bin_xor (opt 0 rfl) (opt 1 rfl)) rfl)⟩, ⟨rfl, fun β => (GOk.plain (op_move (opt 0 rfl)) rfl)⟩, ⟨rfl, fun β => (GOk.plain (op_move (opt 0 rfl)) rfl)⟩, ⟨rfl, fun β => (GOk.plain (op_bin bin_and (opt 0 rfl) (opt 1 rfl)) rfl)⟩, ⟨rfl, fun β => (GOk.plain (op_move (opt 0 rfl)) rfl)⟩, ⟨rfl, fun β => (GOk.plain (op_move (opt 0 rfl)) rfl)⟩, ⟨rfl, fun β => (GOk.plain (op_bin bin_and (opt 0 rfl) (opt 1 rfl)) rfl)⟩, ⟨rfl, fun β => (GOk.plain (op_bin bin_xor (opt 0 rfl) (opt 1 rfl)) rfl)⟩, ⟨rfl, fun β => (GOk.plain (op_move (opt 0 rfl)) rfl)⟩, ⟨rfl, fun β => (GOk.plain (op_move (opt 0 rfl)) rfl)⟩, ⟨rfl, fun β => (GOk.plain (op_bin bin_and (opt 0 rfl) (opt 1 rfl)) rfl)⟩, ⟨rfl, fun β => (GOk.plain (op_bin bin_xor (opt 0 rfl) (opt 1 rfl)) rfl)⟩, ⟨rfl, fun β => (GOk.plain (op_bin bin_add (opt 0 rfl) (opt 1 rfl)) rfl)⟩, ⟨rfl, fun β => (GOk.plain (op_assign (opt 0 rfl)) rfl)⟩, trivial⟩
                clear h
                intro β a w h
                change SatL c [.slot 2 (lpVP p1 0), .slot 4 (lpVP p2 0), .slot 5 (lpVP p5 0), .slot 6 (lpVP p6 0), .slot 11 (intVP .u32 x80), .slot 12 (intVP .u32 x81), .slot 13 (intVP .u32 x82), .slot 14 (intVP .u32 x83), .slot 15 (intVP .u32 x84), .slot 16 (intVP .u32 x85), .slot 17 (intVP .u32 x86), .slot 19 (intVP .i64 x88), .slot 20 (intVP .u32 (IntKind.wrap .u32 ((IntKind.wrap .u32 ((IntKind.wrap .u32 ((IntKind.wrap .u32 (x87 + (bits .xor .u32 (bits .xor .u32 r107 r108) r109))) + (bits .xor .u32 (bits .and .u32 x84 x85) (bits .and .u32 (bits .xor .u32 4294967295 x84) x86)))) + (r4.getD x88.toNat 0))) + (y72.getD x88.toNat 0)))), .slot 21 (intVP .u32 (IntKind.wrap .u32 ((bits .xor .u32 (bits .xor .u32 r111 r112) r113) + (bits .xor .u32 (bits .xor .u32 (bits .and .u32 x80 x81) (bits .and .u32 x80 x82)) (bits .and .u32 x81 x82))))), .res (lb p1 150 [intsCk .u32 8 a_0]), .res (lb p2 150 [intsCk .u32 8 (List.replicate 8 0)]), .res (lb p5 170 [intsCk .u32 64 r4]), .res (lb p6 170 [intsCk .u32 64 y72])] a w at h
                clear β
                show Code.wp Tryd.prog _ _ a w
                refine wp_seq ?_
                refine region_do (n := 231) [.slot 186 100000 100000 (fun _ _ => (intVP .u32 x86)),
      .slot 18 100000 100000 (fun _ _ => (intVP .u32 x86))] [0, 1] [⟨[10], [], [18], [], some 186⟩, ⟨[18], [], [19], [0], some 18⟩] [0, 1, 2, 3, 4, 5, 6, 7, 8, 9, 19, 11, 12, 13, 14, 15, 16, 17] mixed hn hG h (by kernel_rfl) ?_ ?_
                · exact ⟨⟨rfl, fun β => (GOk.plain (op_move (opt 0 rfl)) rfl)⟩, ⟨rfl, fun β => (GOk.plain (op_assign (opt 0 rfl)) rfl)⟩, trivial⟩
                clear h
                intro β a w h
                change SatL c [.slot 2 (lpVP p1 0), .slot 4 (lpVP p2 0), .slot 5 (lpVP p5 0), .slot 6 (lpVP p6 0), .slot 11 (intVP .u32 x80), .slot 12 (intVP .u32 x81), .slot 13 (intVP .u32 x82), .slot 14 (intVP .u32 x83), .slot 15 (intVP .u32 x84), .slot 16 (intVP .u32 x85), .slot 18 (intVP .u32 x86), .slot 19 (intVP .i64 x88), .slot 20 (intVP .u32 (IntKind.wrap .u32 ((IntKind.wrap .u32 ((IntKind.wrap .u32 ((IntKind.wrap .u32 (x87 + (bits .xor .u32 (bits .xor .u32 r107 r108) r109))) + (bits .xor .u32 (bits .and .u32 x84 x85) (bits .and .u32 (bits .xor .u32 4294967295 x84) x86)))) + (r4.getD x88.toNat 0))) + (y72.getD x88.toNat 0)))), .slot 21 (intVP .u32 (IntKind.wrap .u32 ((bits .xor .u32 (bits .xor .u32 r111 r112) r113) + (bits .xor .u32 (bits .xor .u32 (bits .and .u32 x80 x81) (bits .and .u32 x80 x82)) (bits .and .u32 x81 x82))))), .res (lb p1 150 [intsCk .u32 8 a_0]), .res (lb p2 150 [intsCk .u32 8 (List.replicate 8 0)]), .res (lb p5 170 [intsCk .u32 64 r4]), .res (lb p6 170 [intsCk .u32 64 y72])] a w at h
                clear β
                show Code.wp Tryd.prog _ _ a w
                refine wp_seq ?_
                refine region_do (n := 231) [.slot 187 100000 100000 (fun _ _ => (intVP .u32 x85)),
      .slot 17 100000 100000 (fun _ _ => (intVP .u32 x85))] [0, 1] [⟨[9], [], [18], [], some 187⟩, ⟨[18], [], [19], [0], some 17⟩] [0, 1, 2, 3, 4, 5, 6, 7, 8, 19, 10, 11, 12, 13, 14, 15, 16, 17] mixed hn hG h (by kernel_rfl) ?_ ?_
                · exact ⟨⟨rfl, fun β => (GOk.plain (op_move (opt 0 rfl)) rfl)⟩, ⟨rfl, fun β => (GOk.plain (op_assign (opt 0 rfl)) rfl)⟩, trivial⟩
                clear h
                intro β a w h
                change SatL c [.slot 2 (lpVP p1 0), .slot 4 (lpVP p2 0), .slot 5 (lpVP p5 0), .slot 6 (lpVP p6 0), .slot 11 (intVP .u32 x80), .slot 12 (intVP .u32 x81), .slot 13 (intVP .u32 x82), .slot 14 (intVP .u32 x83), .slot 15 (intVP .u32 x84), .slot 17 (intVP .u32 x85), .slot 18 (intVP .u32 x86), .slot 19 (intVP .i64 x88), .slot 20 (intVP .u32 (IntKind.wrap .u32 ((IntKind.wrap .u32 ((IntKind.wrap .u32 ((IntKind.wrap .u32 (x87 + (bits .xor .u32 (bits .xor .u32 r107 r108) r109))) + (bits .xor .u32 (bits .and .u32 x84 x85) (bits .and .u32 (bits .xor .u32 4294967295 x84) x86)))) + (r4.getD x88.toNat 0))) + (y72.getD x88.toNat 0)))), .slot 21 (intVP .u32 (IntKind.wrap .u32 ((bits .xor .u32 (bits .xor .u32 r111 r112) r113) + (bits .xor .u32 (bits .xor .u32 (bits .and .u32 x80 x81) (bits .and .u32 x80 x82)) (bits .and .u32 x81 x82))))), .res (lb p1 150 [intsCk .u32 8 a_0]), .res (lb p2 150 [intsCk .u32 8 (List.replicate 8 0)]), .res (lb p5 170 [intsCk .u32 64 r4]), .res (lb p6 170 [intsCk .u32 64 y72])] a w at h
                clear β
                show Code.wp Tryd.prog _ _ a w
                refine wp_seq ?_
                refine region_do (n := 231) [.slot 188 100000 100000 (fun _ _ => (intVP .u32 x84)),
      .slot 16 100000 100000 (fun _ _ => (intVP .u32 x84))] [0, 1] [⟨[8], [], [18], [], some 188⟩, ⟨[18], [], [19], [0], some 16⟩] [0, 1, 2, 3, 4, 5, 6, 7, 19, 9, 10, 11, 12, 13, 14, 15, 16, 17] mixed hn hG h (by kernel_rfl) ?_ ?_
                · exact ⟨⟨rfl, fun β => (GOk.plain (op_move (opt 0 rfl)) rfl)⟩, ⟨rfl, fun β => (GOk.plain (op_assign (opt 0 rfl)) rfl)⟩, trivial⟩
                clear h
                intro β a w h
                change SatL c [.slot 2 (lpVP p1 0), .slot 4 (lpVP p2 0), .slot 5 (lpVP p5 0), .slot 6 (lpVP p6 0), .slot 11 (intVP .u32 x80), .slot 12 (intVP .u32 x81), .slot 13 (intVP .u32 x82), .slot 14 (intVP .u32 x83), .slot 16 (intVP .u32 x84), .slot 17 (intVP .u32 x85), .slot 18 (intVP .u32 x86), .slot 19 (intVP .i64 x88), .slot 20 (intVP .u32 (IntKind.wrap .u32 ((IntKind.wrap .u32 ((IntKind.wrap .u32 ((IntKind.wrap .u32 (x87 + (bits .xor .u32 (bits .xor .u32 r107 r108) r109))) + (bits .xor .u32 (bits .and .u32 x84 x85) (bits .and .u32 (bits .xor .u32 4294967295 x84) x86)))) + (r4.getD x88.toNat 0))) + (y72.getD x88.toNat 0)))), .slot 21 (intVP .u32 (IntKind.wrap .u32 ((bits .xor .u32 (bits .xor .u32 r111 r112) r113) + (bits .xor .u32 (bits .xor .u32 (bits .and .u32 x80 x81) (bits .and .u32 x80 x82)) (bits .and .u32 x81 x82))))), .res (lb p1 150 [intsCk .u32 8 a_0]), .res (lb p2 150 [intsCk .u32 8 (List.replicate 8 0)]), .res (lb p5 170 [intsCk .u32 64 r4]), .res (lb p6 170 [intsCk .u32 64 y72])] a w at h
                clear β
                show Code.wp Tryd.prog _ _ a w
                refine wp_seq ?_
                refine region_do (n := 231) [.slot 189 100000 100000 (fun _ _ => (intVP .u32 x83)),
      .slot 190 100000 100000 (fun _ _ => (intVP .u32 (IntKind.wrap .u32 ((IntKind.wrap .u32 ((IntKind.wrap .u32 ((IntKind.wrap .u32 (x87 + (bits .xor .u32 (bits .xor .u32 r107 r108) r109))) + (bits .xor .u32 (bits .and .u32 x84 x85) (bits .and .u32 (bits .xor .u32 4294967295 x84) x86)))) + (r4.getD x88.toNat 0))) + (y72.getD x88.toNat 0))))),
      .slot 191 100000 100000 (fun _ _ => (intVP .u32 (IntKind.wrap .u32 (x83 + (IntKind.wrap .u32 ((IntKind.wrap .u32 ((IntKind.wrap .u32 ((IntKind.wrap .u32 (x87 + (bits .xor .u32 (bits .xor .u32 r107 r108) r109))) + (bits .xor .u32 (bits .and .u32 x84 x85) (bits .and .u32 (bits .xor .u32 4294967295 x84) x86)))) + (r4.getD x88.toNat 0))) + (y72.getD x88.toNat 0))))))),
      .slot 15 100000 100000 (fun _ _ => (intVP .u32 (IntKind.wrap .u32 (x83 + (IntKind.wrap .u32 ((IntKind.wrap .u32 ((IntKind.wrap .u32 ((IntKind.wrap .u32 (x87 + (bits .xor .u32 (bits .xor .u32 r107 r108) r109))) + (bits .xor .u32 (bits .and .u32 x84 x85) (bits .and .u32 (bits .xor .u32 4294967295 x84) x86)))) + (r4.getD x88.toNat 0))) + (y72.getD x88.toNat 0)))))))] [0, 1, 2, 3] [⟨[7], [], [18], [], some 189⟩, ⟨[12], [], [19], [0], some 190⟩, ⟨[18, 19], [], [20], [0, 1], some 191⟩, ⟨[20], [], [21], [0, 1, 2], some 15⟩] [0, 1, 2, 3, 4, 5, 6, 21, 8, 9, 10, 11, 12, 13, 14, 15, 16, 17] mixed hn hG h (by kernel_rfl) ?_ ?_
                · exact ⟨⟨rfl, fun β => (GOk.plain (op_move (opt 0 rfl)) rfl)⟩, ⟨rfl, fun β => (GOk.plain (op_move (opt 0 rfl)) rfl)⟩, ⟨rfl, fun β => (GOk.plain (op_bin bin_add (opt 0 rfl) (opt 1 rfl)) rfl)⟩, ⟨rfl, fun β => (GOk.plain (op_assign (opt 0 rfl)) rfl)⟩, trivial⟩
                clear h
                intro β a w h
                change SatL c [.slot 2 (lpVP p1 0), .slot 4 (lpVP p2 0), .slot 5 (lpVP p5 0), .slot 6 (lpVP p6 0), .slot 11 (intVP .u32 x80), .slot 12 (intVP .u32 x81), .slot 13 (intVP .u32 x82), .slot 15 (intVP .u32 (IntKind.wrap .u32 (x83 + (IntKind.wrap .u32 ((IntKind.wrap .u32 ((IntKind.wrap .u32 ((IntKind.wrap .u32 (x87 + (bits .xor .u32 (bits .xor .u32 r107 r108) r109))) + (bits .xor .u32 (bits .and .u32 x84 x85) (bits .and .u32 (bits .xor .u32 4294967295 x84) x86)))) + (r4.getD x88.toNat 0))) + (y72.getD x88.toNat 0)))))), .slot 16 (intVP .u32 x84), .slot 17 (intVP .u32 x85), .slot 18 (intVP .u32 x86), .slot 19 (intVP .i64 x88), .slot 20 (intVP .u32 (IntKind.wrap .u32 ((IntKind.wrap .u32 ((IntKind.wrap .u32 ((IntKind.wrap .u32 (x87 + (bits .xor .u32 (bits .xor .u32 r107 r108) r109))) + (bits .xor .u32 (bits .and .u32 x84 x85) (bits .and .u32 (bits .xor .u32 4294967295 x84) x86)))) + (r4.getD x88.toNat 0))) + (y72.getD x88.toNat 0)))), .slot 21 (intVP .u32 (IntKind.wrap .u32 ((bits .xor .u32 (bits .xor .u32 r111 r112) r113) + (bits .xor .u32 (bits .xor .u32 (bits .and .u32 x80 x81) (bits .and .u32 x80 x82)) (bits .and .u32 x81 x82))))), .res (lb p1 150 [intsCk .u32 8 a_0]), .res (lb p2 150 [intsCk .u32 8 (List.replicate 8 0)]), .res (lb p5 170 [intsCk .u32 64 r4]), .res (lb p6 170 [intsCk .u32 64 y72])] a w at h
                clear β
                show Code.wp Tryd.prog _ _ a w
                refine wp_seq ?_
                refine region_do (n := 231) [.slot 192 100000 100000 (fun _ _ => (intVP .u32 x82)),
      .slot 14 100000 100000 (fun _ _ => (intVP .u32 x82))] [0, 1] [⟨[6], [], [18], [], some 192⟩, ⟨[18], [], [19], [0], some 14⟩] [0, 1, 2, 3, 4, 5, 19, 7, 8, 9, 10, 11, 12, 13, 14, 15, 16, 17] mixed hn hG h (by kernel_rfl) ?_ ?_
                · exact ⟨⟨rfl, fun β => (GOk.plain (op_move (opt 0 rfl)) rfl)⟩, ⟨rfl, fun β => (GOk.plain (op_assign (opt 0 rfl)) rfl)⟩, trivial⟩
                clear h
                intro β a w h
                change SatL c [.slot 2 (lpVP p1 0), .slot 4 (lpVP p2 0), .slot 5 (lpVP p5 0), .slot 6 (lpVP p6 0), .slot 11 (intVP .u32 x80), .slot 12 (intVP .u32 x81), .slot 14 (intVP .u32 x82), .slot 15 (intVP .u32 (IntKind.wrap .u32 (x83 + (IntKind.wrap .u32 ((IntKind.wrap .u32 ((IntKind.wrap .u32 ((IntKind.wrap .u32 (x87 + (bits .xor .u32 (bits .xor .u32 r107 r108) r109))) + (bits .xor .u32 (bits .and .u32 x84 x85) (bits .and .u32 (bits .xor .u32 4294967295 x84) x86)))) + (r4.getD x88.toNat 0))) + (y72.getD x88.toNat 0)))))), .slot 16 (intVP .u32 x84), .slot 17 (intVP .u32 x85), .slot 18 (intVP .u32 x86), .slot 19 (intVP .i64 x88), .slot 20 (intVP .u32 (IntKind.wrap .u32 ((IntKind.wrap .u32 ((IntKind.wrap .u32 ((IntKind.wrap .u32 (x87 + (bits .xor .u32 (bits .xor .u32 r107 r108) r109))) + (bits .xor .u32 (bits .and .u32 x84 x85) (bits .and .u32 (bits .xor .u32 4294967295 x84) x86)))) + (r4.getD x88.toNat 0))) + (y72.getD x88.toNat 0)))), .slot 21 (intVP .u32 (IntKind.wrap .u32 ((bits .xor .u32 (bits .xor .u32 r111 r112) r113) + (bits .xor .u32 (bits .xor .u32 (bits .and .u32 x80 x81) (bits .and .u32 x80 x82)) (bits .and .u32 x81 x82))))), .res (lb p1 150 [intsCk .u32 8 a_0]), .res (lb p2 150 [intsCk .u32 8 (List.replicate 8 0)]), .res (lb p5 170 [intsCk .u32 64 r4]), .res (lb p6 170 [intsCk .u32 64 y72])] a w at h
                clear β
                show Code.wp Tryd.prog _ _ a w
                refine wp_seq ?_
                refine region_do (n := 231) [.slot 193 100000 100000 (fun _ _ => (intVP .u32 x81)),
      .slot 13 100000 100000 (fun _ _ => (intVP .u32 x81))] [0, 1] [⟨[5], [], [18], [], some 193⟩, ⟨[18], [], [19], [0], some 13⟩] [0, 1, 2, 3, 4, 19, 6, 7, 8, 9, 10, 11, 12, 13, 14, 15, 16, 17] mixed hn hG h (by kernel_rfl) ?_ ?_
                · exact ⟨⟨rfl, fun β => (GOk.plain (op_move (opt 0 rfl)) rfl)⟩, ⟨rfl, fun β => (GOk.plain (op_assign (opt 0 rfl)) rfl)⟩, trivial⟩
                clear h
                intro β a w h
                change SatL c [.slot 2 (lpVP p1 0), .slot 4 (lpVP p2 0), .slot 5 (lpVP p5 0), .slot 6 (lpVP p6 0), .slot 11 (intVP .u32 x80), .slot 13 (intVP .u32 x81), .slot 14 (intVP .u32 x82), .slot 15 (intVP .u32 (IntKind.wrap .u32 (x83 + (IntKind.wrap .u32 ((IntKind.wrap .u32 ((IntKind.wrap .u32 ((IntKind.wrap .u32 (x87 + (bits .xor .u32 (bits .xor .u32 r107 r108) r109))) + (bits .xor .u32 (bits .and .u32 x84 x85) (bits .and .u32 (bits .xor .u32 4294967295 x84) x86)))) + (r4.getD x88.toNat 0))) + (y72.getD x88.toNat 0)))))), .slot 16 (intVP .u32 x84), .slot 17 (intVP .u32 x85), .slot 18 (intVP .u32 x86), .slot 19 (intVP .i64 x88), .slot 20 (intVP .u32 (IntKind.wrap .u32 ((IntKind.wrap .u32 ((IntKind.wrap .u32 ((IntKind.wrap .u32 (x87 + (bits .xor .u32 (bits .xor .u32 r107 r108) r109))) + (bits .xor .u32 (bits .and .u32 x84 x85) (bits .and .u32 (bits .xor .u32 4294967295 x84) x86)))) + (r4.getD x88.toNat 0))) + (y72.getD x88.toNat 0)))), .slot 21 (intVP .u32 (IntKind.wrap .u32 ((bits .xor .u32 (bits .xor .u32 r111 r112) r113) + (bits .xor .u32 (bits .xor .u32 (bits .and .u32 x80 x81) (bits .and .u32 x80 x82)) (bits .and .u32 x81 x82))))), .res (lb p1 150 [intsCk .u32 8 a_0]), .res (lb p2 150 [intsCk .u32 8 (List.replicate 8 0)]), .res (lb p5 170 [intsCk .u32 64 r4]), .res (lb p6 170 [intsCk .u32 64 y72])] a w at h
                clear β
                show Code.wp Tryd.prog _ _ a w
                refine wp_seq ?_
                refine region_do (n := 231) [.slot 194 100000 100000 (fun _ _ => (intVP .u32 x80)),
      .slot 12 100000 100000 (fun _ _ => (intVP .u32 x80))] [0, 1] [⟨[4], [], [18], [], some 194⟩, ⟨[18], [], [19], [0], some 12⟩] [0, 1, 2, 3, 19, 5, 6, 7, 8, 9, 10, 11, 12, 13, 14, 15, 16, 17] mixed hn hG h (by kernel_rfl) ?_ ?_
                · exact ⟨⟨rfl, fun β => (GOk.plain (op_move (opt 0 rfl)) rfl)⟩, ⟨rfl, fun β => (GOk.plain (op_assign (opt 0 rfl)) rfl)⟩, trivial⟩
                clear h
                intro β a w h
                change SatL c [.slot 2 (lpVP p1 0), .slot 4 (lpVP p2 0), .slot 5 (lpVP p5 0), .slot 6 (lpVP p6 0), .slot 12 (intVP .u32 x80), .slot 13 (intVP .u32 x81), .slot 14 (intVP .u32 x82), .slot 15 (intVP .u32 (IntKind.wrap .u32 (x83 + (IntKind.wrap .u32 ((IntKind.wrap .u32 ((IntKind.wrap .u32 ((IntKind.wrap .u32 (x87 + (bits .xor .u32 (bits .xor .u32 r107 r108) r109))) + (bits .xor .u32 (bits .and .u32 x84 x85) (bits .and .u32 (bits .xor .u32 4294967295 x84) x86)))) + (r4.getD x88.toNat 0))) + (y72.getD x88.toNat 0)))))), .slot 16 (intVP .u32 x84), .slot 17 (intVP .u32 x85), .slot 18 (intVP .u32 x86), .slot 19 (intVP .i64 x88), .slot 20 (intVP .u32 (IntKind.wrap .u32 ((IntKind.wrap .u32 ((IntKind.wrap .u32 ((IntKind.wrap .u32 (x87 + (bits .xor .u32 (bits .xor .u32 r107 r108) r109))) + (bits .xor .u32 (bits .and .u32 x84 x85) (bits .and .u32 (bits .xor .u32 4294967295 x84) x86)))) + (r4.getD x88.toNat 0))) + (y72.getD x88.toNat 0)))), .slot 21 (intVP .u32 (IntKind.wrap .u32 ((bits .xor .u32 (bits .xor .u32 r111 r112) r113) + (bits .xor .u32 (bits .xor .u32 (bits .and .u32 x80 x81) (bits .and .u32 x80 x82)) (bits .and .u32 x81 x82))))), .res (lb p1 150 [intsCk .u32 8 a_0]), .res (lb p2 150 [intsCk .u32 8 (List.replicate 8 0)]), .res (lb p5 170 [intsCk .u32 64 r4]), .res (lb p6 170 [intsCk .u32 64 y72])] a w at h
                clear β
                show Code.wp Tryd.prog _ _ a w
                refine region_do (n := 231) [.slot 195 100000 100000 (fun _ _ => (intVP .u32 (IntKind.wrap .u32 ((IntKind.wrap .u32 ((IntKind.wrap .u32 ((IntKind.wrap .u32 (x87 + (bits .xor .u32 (bits .xor .u32 r107 r108) r109))) + (bits .xor .u32 (bits .and .u32 x84 x85) (bits .and .u32 (bits .xor .u32 4294967295 x84) x86)))) + (r4.getD x88.toNat 0))) + (y72.getD x88.toNat 0))))),
      .slot 196 100000 100000 (fun _ _ => (intVP .u32 (IntKind.wrap .u32 ((bits .xor .u32 (bits .xor .u32 r111 r112) r113) + (bits .xor .u32 (bits .xor .u32 (bits .and .u32 x80 x81) (bits .and .u32 x80 x82)) (bits .and .u32 x81 x82)))))),
      .slot 197 100000 100000 (fun _ _ => (intVP .u32 (IntKind.wrap .u32 ((IntKind.wrap .u32 ((IntKind.wrap .u32 ((IntKind.wrap .u32 ((IntKind.wrap .u32 (x87 + (bits .xor .u32 (bits .xor .u32 r107 r108) r109))) + (bits .xor .u32 (bits .and .u32 x84 x85) (bits .and .u32 (bits .xor .u32 4294967295 x84) x86)))) + (r4.getD x88.toNat 0))) + (y72.getD x88.toNat 0))) + (IntKind.wrap .u32 ((bits .xor .u32 (bits .xor .u32 r111 r112) r113) + (bits .xor .u32 (bits .xor .u32 (bits .and .u32 x80 x81) (bits .and .u32 x80 x82)) (bits .and .u32 x81 x82)))))))),
      .slot 11 100000 100000 (fun _ _ => (intVP .u32 (IntKind.wrap .u32 ((IntKind.wrap .u32 ((IntKind.wrap .u32 ((IntKind.wrap .u32 ((IntKind.wrap .u32 (x87 + (bits .xor .u32 (bits .xor .u32 r107 r108) r109))) + (bits .xor .u32 (bits .and .u32 x84 x85) (bits .and .u32 (bits .xor .u32 4294967295 x84) x86)))) + (r4.getD x88.toNat 0))) + (y72.getD x88.toNat 0))) + (IntKind.wrap .u32 ((bits .xor .u32 (bits .xor .u32 r111 r112) r113) + (bits .xor .u32 (bits .xor .u32 (bits .and .u32 x80 x81) (bits .and .u32 x80 x82)) (bits .and .u32 x81 x82))))))))] [0, 1, 2, 3] [⟨[12], [], [18], [], some 195⟩, ⟨[13], [], [19], [0], some 196⟩, ⟨[18, 19], [], [20], [0, 1], some 197⟩, ⟨[20], [], [21], [0, 1, 2], some 11⟩] [0, 1, 2, 3, 21, 4, 5, 6, 7, 8, 9, 10, 11, 14, 15, 16, 17] mixed hn hG h (by kernel_rfl) ?_ ?_
                · exact ⟨⟨rfl, fun β => (GOk.plain (op_move (opt 0 rfl)) rfl)⟩, ⟨rfl, fun β => (GOk.plain (op_move (opt 0 rfl)) rfl)⟩, ⟨rfl, fun β => (GOk.plain (op_bin bin_add (opt 0 rfl) (opt 1 rfl)) rfl)⟩, ⟨rfl, fun β => (GOk.plain (op_assign (opt 0 rfl)) rfl)⟩, trivial⟩
                clear h
                intro β a w h
                change SatL c [.slot 2 (lpVP p1 0), .slot 4 (lpVP p2 0), .slot 5 (lpVP p5 0), .slot 6 (lpVP p6 0), .slot 11 (intVP .u32 (IntKind.wrap .u32 ((IntKind.wrap .u32 ((IntKind.wrap .u32 ((IntKind.wrap .u32 ((IntKind.wrap .u32 (x87 + (bits .xor .u32 (bits .xor .u32 r107 r108) r109))) + (bits .xor .u32 (bits .and .u32 x84 x85) (bits .and .u32 (bits .xor .u32 4294967295 x84) x86)))) + (r4.getD x88.toNat 0))) + (y72.getD x88.toNat 0))) + (IntKind.wrap .u32 ((bits .xor .u32 (bits .xor .u32 r111 r112) r113) + (bits .xor .u32 (bits .xor .u32 (bits .and .u32 x80 x81) (bits .and .u32 x80 x82)) (bits .and .u32 x81 x82))))))), .slot 12 (intVP .u32 x80), .slot 13 (intVP .u32 x81), .slot 14 (intVP .u32 x82), .slot 15 (intVP .u32 (IntKind.wrap .u32 (x83 + (IntKind.wrap .u32 ((IntKind.wrap .u32 ((IntKind.wrap .u32 ((IntKind.wrap .u32 (x87 + (bits .xor .u32 (bits .xor .u32 r107 r108) r109))) + (bits .xor .u32 (bits .and .u32 x84 x85) (bits .and .u32 (bits .xor .u32 4294967295 x84) x86)))) + (r4.getD x88.toNat 0))) + (y72.getD x88.toNat 0)))))), .slot 16 (intVP .u32 x84), .slot 17 (intVP .u32 x85), .slot 18 (intVP .u32 x86), .slot 19 (intVP .i64 x88), .res (lb p1 150 [intsCk .u32 8 a_0]), .res (lb p2 150 [intsCk .u32 8 (List.replicate 8 0)]), .res (lb p5 170 [intsCk .u32 64 r4]), .res (lb p6 170 [intsCk .u32 64 y72])] a w at h
                clear β
                show Code.wp Tryd.prog _ _ a w
                refine region_do (n := 231) [.slot 137 100000 100000 (fun _ _ => (intVP .i64 x88)),
      .slot 138 100000 100000 (fun _ _ => (intVP .i64 (IntKind.wrap .i64 (x88 + 1)))),
      .slot 19 100000 100000 (fun _ _ => (intVP .i64 (IntKind.wrap .i64 (x88 + 1))))] [0, 1, 2] [⟨[12], [], [17], [], some 137⟩, ⟨[17], [], [18], [0], some 138⟩, ⟨[18], [12], [19], [0, 1], some 19⟩] [0, 1, 2, 3, 4, 5, 6, 7, 8, 9, 10, 11, 19, 13, 14, 15, 16] mixed hn hG h (by kernel_rfl) ?_ ?_
                · exact ⟨⟨rfl, fun β => (GOk.plain (op_move (opt 0 rfl)) rfl)⟩, ⟨rfl, fun β => (GOk.plain (op_bin bin_add (opt 0 rfl) (opc (ic (by decide)))) rfl)⟩, ⟨rfl, fun β => (GOk.drop _ (GOk.plain (op_assign (opt 0 rfl)) rfl))⟩, trivial⟩
                clear h
                intro β a w h
                change SatL c [.slot 2 (lpVP p1 0), .slot 4 (lpVP p2 0), .slot 5 (lpVP p5 0), .slot 6 (lpVP p6 0), .slot 11 (intVP .u32 (IntKind.wrap .u32 ((IntKind.wrap .u32 ((IntKind.wrap .u32 ((IntKind.wrap .u32 ((IntKind.wrap .u32 (x87 + (bits .xor .u32 (bits .xor .u32 r107 r108) r109))) + (bits .xor .u32 (bits .and .u32 x84 x85) (bits .and .u32 (bits .xor .u32 4294967295 x84) x86)))) + (r4.getD x88.toNat 0))) + (y72.getD x88.toNat 0))) + (IntKind.wrap .u32 ((bits .xor .u32 (bits .xor .u32 r111 r112) r113) + (bits .xor .u32 (bits .xor .u32 (bits .and .u32 x80 x81) (bits .and .u32 x80 x82)) (bits .and .u32 x81 x82))))))), .slot 12 (intVP .u32 x80), .slot 13 (intVP .u32 x81), .slot 14 (intVP .u32 x82), .slot 15 (intVP .u32 (IntKind.wrap .u32 (x83 + (IntKind.wrap .u32 ((IntKind.wrap .u32 ((IntKind.wrap .u32 ((IntKind.wrap .u32 (x87 + (bits .xor .u32 (bits .xor .u32 r107 r108) r109))) + (bits .xor .u32 (bits .and .u32 x84 x85) (bits .and .u32 (bits .xor .u32 4294967295 x84) x86)))) + (r4.getD x88.toNat 0))) + (y72.getD x88.toNat 0)))))), .slot 16 (intVP .u32 x84), .slot 17 (intVP .u32 x85), .slot 18 (intVP .u32 x86), .slot 19 (intVP .i64 (IntKind.wrap .i64 (x88 + 1))), .res (lb p1 150 [intsCk .u32 8 a_0]), .res (lb p2 150 [intsCk .u32 8 (List.replicate 8 0)]), .res (lb p5 170 [intsCk .u32 64 r4]), .res (lb p6 170 [intsCk .u32 64 y72])] a w at h
                clear β
                obtain rfl := Option.some.inj hF
                exact ⟨rfl, h.sub [0, 1, 2, 3, 4, 5, 6, 7, 8, 9, 10, 11, 12, 13, 14, 15, 16] (by rfl)⟩
              · replace hF := ff_of hb106 hF
                replace h := h.sub [0, 1, 2, 3, 4, 5, 6, 7, 8, 9, 10, 11, 12, 14, 15, 16, 17] (by rfl)
                change SatL c [.slot 2 (lpVP p1 0), .slot 4 (lpVP p2 0), .slot 5 (lpVP p5 0), .slot 6 (lpVP p6 0), .slot 11 (intVP .u32 x80), .slot 12 (intVP .u32 x81), .slot 13 (intVP .u32 x82), .slot 14 (intVP .u32 x83), .slot 15 (intVP .u32 x84), .slot 16 (intVP .u32 x85), .slot 17 (intVP .u32 x86), .slot 18 (intVP .u32 x87), .slot 19 (intVP .i64 x88), .res (lb p1 150 [intsCk .u32 8 a_0]), .res (lb p2 150 [intsCk .u32 8 (List.replicate 8 0)]), .res (lb p5 170 [intsCk .u32 64 r4]), .res (lb p6 170 [intsCk .u32 64 y72])] a w at h
                refine wp_exit ?_
                obtain rfl := Option.some.inj hF
                exact ⟨exit_ne _, rfl, h.sub [0, 1, 4, 5, 6, 7, 8, 9, 10, 11, 13, 14] (by rfl)⟩
            · clear hl115
              intro e a w hq
              cases cr114 with
              | ret r116 =>
                obtain ⟨rfl, hq⟩ := hq
                obtain rfl := Option.some.inj hF
                exact ⟨.inl rfl, hq⟩
              | next s117 =>
                obtain ⟨y118, y119, y120, y121, y122, y123, y124, y125, y126⟩ := s117
                obtain ⟨rfl, h⟩ := hq
                change SatL c [.slot 2 (lpVP p1 0), .slot 4 (lpVP p2 0), .slot 11 (intVP .u32 y118), .slot 12 (intVP .u32 y119), .slot 13 (intVP .u32 y120), .slot 14 (intVP .u32 y121), .slot 15 (intVP .u32 y122), .slot 16 (intVP .u32 y123), .slot 17 (intVP .u32 y124), .slot 18 (intVP .u32 y125), .res (lb p1 150 [intsCk .u32 8 a_0]), .res (lb p2 150 [intsCk .u32 8 (List.replicate 8 0)])] a w at h
                refine inBlock_at ?_
                show Code.wp Tryd.prog _ _ a w
                refine wp_seq ?_
                refine region_do (n := 231) [.slot 198 100000 100000 (fun _ _ => (lpVP p1 (0 + (0 : Int).toNat * 1))),
      .slot 199 100000 100000 (fun _ _ => (intVP .u32 (a_0.getD (0 : Int).toNat 0))),
      .slot 200 100000 100000 (fun _ _ => (intVP .u32 y118)),
      .slot 201 100000 100000 (fun _ _ => (intVP .u32 (IntKind.wrap .u32 ((a_0.getD (0 : Int).toNat 0) + y118)))),
      .slot 202 100000 100000 (fun _ _ => (lpVP p1 (0 + (1 : Int).toNat * 1))),
      .slot 203 100000 100000 (fun _ _ => (intVP .u32 (a_0.getD (1 : Int).toNat 0))),
      .slot 204 100000 100000 (fun _ _ => (intVP .u32 y119)),
      .slot 205 100000 100000 (fun _ _ => (intVP .u32 (IntKind.wrap .u32 ((a_0.getD (1 : Int).toNat 0) + y119)))),
      .slot 206 100000 100000 (fun _ _ => (lpVP p1 (0 + (2 : Int).toNat * 1))),
      .slot 207 100000 100000 (fun _ _ => (intVP .u32 (a_0.getD (2 : Int).toNat 0))),
      .slot 208 100000 100000 (fun _ _ => (intVP .u32 y120)),
      .slot 209 100000 100000 (fun _ _ => (intVP .u32 (IntKind.wrap .u32 ((a_0.getD (2 : Int).toNat 0) + y120)))),
      .slot 210 100000 100000 (fun _ _ => (lpVP p1 (0 + (3 : Int).toNat * 1))),
      .slot 211 100000 100000 (fun _ _ => (intVP .u32 (a_0.getD (3 : Int).toNat 0))),
      .slot 212 100000 100000 (fun _ _ => (intVP .u32 y121)),
      .slot 213 100000 100000 (fun _ _ => (intVP .u32 (IntKind.wrap .u32 ((a_0.getD (3 : Int).toNat 0) + y121)))),
      .slot 214 100000 100000 (fun _ _ => (lpVP p1 (0 + (4 : Int).toNat * 1))),
      .slot 215 100000 100000 (fun _ _ => (intVP .u32 (a_0.getD (4 : Int).toNat 0))),
      .slot 216 100000 100000 (fun _ _ => (intVP .u32 y122)),
      .slot 217 100000 100000 (fun _ _ => (intVP .u32 (IntKind.wrap .u32 ((a_0.getD (4 : Int).toNat 0) + y122)))),
      .slot 218 100000 100000 (fun _ _ => (lpVP p1 (0 + (5 : Int).toNat * 1))),
      .slot 219 100000 100000 (fun _ _ => (intVP .u32 (a_0.getD (5 : Int).toNat 0))),
      .slot 220 100000 100000 (fun _ _ => (intVP .u32 y123)),
      .slot 221 100000 100000 (fun _ _ => (intVP .u32 (IntKind.wrap .u32 ((a_0.getD (5 : Int).toNat 0) + y123)))),
      .slot 222 100000 100000 (fun _ _ => (lpVP p1 (0 + (6 : Int).toNat * 1))),
      .slot 223 100000 100000 (fun _ _ => (intVP .u32 (a_0.getD (6 : Int).toNat 0))),
      .slot 224 100000 100000 (fun _ _ => (intVP .u32 y124)),
      .slot 225 100000 100000 (fun _ _ => (intVP .u32 (IntKind.wrap .u32 ((a_0.getD (6 : Int).toNat 0) + y124)))),
      .slot 226 100000 100000 (fun _ _ => (lpVP p1 (0 + (7 : Int).toNat * 1))),
      .slot 227 100000 100000 (fun _ _ => (intVP .u32 (a_0.getD (7 : Int).toNat 0))),
      .slot 228 100000 100000 (fun _ _ => (intVP .u32 y125)),
      .slot 229 100000 100000 (fun _ _ => (intVP .u32 (IntKind.wrap .u32 ((a_0.getD (7 : Int).toNat 0) + y125)))),
      .slot 230 100000 100000 (fun _ _ => (aggVP [intsCk .u32 8 ([IntKind.wrap .u32 ((a_0.getD (0 : Int).toNat 0) + y118), IntKind.wrap .u32 ((a_0.getD (1 : Int).toNat 0) + y119), IntKind.wrap .u32 ((a_0.getD (2 : Int).toNat 0) + y120), IntKind.wrap .u32 ((a_0.getD (3 : Int).toNat 0) + y121), IntKind.wrap .u32 ((a_0.getD (4 : Int).toNat 0) + y122), IntKind.wrap .u32 ((a_0.getD (5 : Int).toNat 0) + y123), IntKind.wrap .u32 ((a_0.getD (6 : Int).toNat 0) + y124), IntKind.wrap .u32 ((a_0.getD (7 : Int).toNat 0) + y125)] ++ List.replicate (8 - 8) 0)])),
      .res 100000 100000 (fun _ _ => (lb p2 150 [intsCk .u32 8 ([IntKind.wrap .u32 ((a_0.getD (0 : Int).toNat 0) + y118), IntKind.wrap .u32 ((a_0.getD (1 : Int).toNat 0) + y119), IntKind.wrap .u32 ((a_0.getD (2 : Int).toNat 0) + y120), IntKind.wrap .u32 ((a_0.getD (3 : Int).toNat 0) + y121), IntKind.wrap .u32 ((a_0.getD (4 : Int).toNat 0) + y122), IntKind.wrap .u32 ((a_0.getD (5 : Int).toNat 0) + y123), IntKind.wrap .u32 ((a_0.getD (6 : Int).toNat 0) + y124), IntKind.wrap .u32 ((a_0.getD (7 : Int).toNat 0) + y125)] ++ List.replicate (8 - 8) 0)]))] [0, 1, 2, 3, 4, 5, 6, 7, 8, 9, 10, 11, 12, 13, 14, 15, 16, 17, 18, 19, 20, 21, 22, 23, 24, 25, 26, 27, 28, 29, 30, 31, 32, 33] [⟨[0], [], [12], [], some 198⟩, ⟨[12, 10], [], [13], [0], some 199⟩, ⟨[2], [], [14], [0, 1], some 200⟩, ⟨[13, 14], [], [15], [0, 1, 2], some 201⟩, ⟨[0], [], [16], [0, 1, 2, 3], some 202⟩, ⟨[16, 10], [], [17], [0, 1, 2, 3, 4], some 203⟩, ⟨[3], [], [18], [0, 1, 2, 3, 4, 5], some 204⟩, ⟨[17, 18], [], [19], [0, 1, 2, 3, 4, 5, 6], some 205⟩, ⟨[0], [], [20], [0, 1, 2, 3, 4, 5, 6, 7], some 206⟩, ⟨[20, 10], [], [21], [0, 1, 2, 3, 4, 5, 6, 7, 8], some 207⟩, ⟨[4], [], [22], [0, 1, 2, 3, 4, 5, 6, 7, 8, 9], some 208⟩, ⟨[21, 22], [], [23], [0, 1, 2, 3, 4, 5, 6, 7, 8, 9, 10], some 209⟩, ⟨[0], [], [24], [0, 1, 2, 3, 4, 5, 6, 7, 8, 9, 10, 11], some 210⟩, ⟨[24, 10], [], [25], [0, 1, 2, 3, 4, 5, 6, 7, 8, 9, 10, 11, 12], some 211⟩, ⟨[5], [], [26], [0, 1, 2, 3, 4, 5, 6, 7, 8, 9, 10, 11, 12, 13], some 212⟩, ⟨[25, 26], [], [27], [0, 1, 2, 3, 4, 5, 6, 7, 8, 9, 10, 11, 12, 13, 14], some 213⟩, ⟨[0], [], [28], [0, 1, 2, 3, 4, 5, 6, 7, 8, 9, 10, 11, 12, 13, 14, 15], some 214⟩, ⟨[28, 10], [], [29], [0, 1, 2, 3, 4, 5, 6, 7, 8, 9, 10, 11, 12, 13, 14, 15, 16], some 215⟩, ⟨[6], [], [30], [0, 1, 2, 3, 4, 5, 6, 7, 8, 9, 10, 11, 12, 13, 14, 15, 16, 17], some 216⟩, ⟨[29, 30], [], [31], [0, 1, 2, 3, 4, 5, 6, 7, 8, 9, 10, 11, 12, 13, 14, 15, 16, 17, 18], some 217⟩, ⟨[0], [], [32], [0, 1, 2, 3, 4, 5, 6, 7, 8, 9, 10, 11, 12, 13, 14, 15, 16, 17, 18, 19], some 218⟩, ⟨[32, 10], [], [33], [0, 1, 2, 3, 4, 5, 6, 7, 8, 9, 10, 11, 12, 13, 14, 15, 16, 17, 18, 19, 20], some 219⟩, ⟨[7], [], [34], [0, 1, 2, 3, 4, 5, 6, 7, 8, 9, 10, 11, 12, 13, 14, 15, 16, 17, 18, 19, 20, 21], some 220⟩, ⟨[33, 34], [], [35], [0, 1, 2, 3, 4, 5, 6, 7, 8, 9, 10, 11, 12, 13, 14, 15, 16, 17, 18, 19, 20, 21, 22], some 221⟩, ⟨[0], [], [36], [0, 1, 2, 3, 4, 5, 6, 7, 8, 9, 10, 11, 12, 13, 14, 15, 16, 17, 18, 19, 20, 21, 22, 23], some 222⟩, ⟨[36, 10], [], [37], [0, 1, 2, 3, 4, 5, 6, 7, 8, 9, 10, 11, 12, 13, 14, 15, 16, 17, 18, 19, 20, 21, 22, 23, 24], some 223⟩, ⟨[8], [], [38], [0, 1, 2, 3, 4, 5, 6, 7, 8, 9, 10, 11, 12, 13, 14, 15, 16, 17, 18, 19, 20, 21, 22, 23, 24, 25], some 224⟩, ⟨[37, 38], [], [39], [0, 1, 2, 3, 4, 5, 6, 7, 8, 9, 10, 11, 12, 13, 14, 15, 16, 17, 18, 19, 20, 21, 22, 23, 24, 25, 26], some 225⟩, ⟨[0], [], [40], [0, 1, 2, 3, 4, 5, 6, 7, 8, 9, 10, 11, 12, 13, 14, 15, 16, 17, 18, 19, 20, 21, 22, 23, 24, 25, 26, 27], some 226⟩, ⟨[40, 10], [], [41], [0, 1, 2, 3, 4, 5, 6, 7, 8, 9, 10, 11, 12, 13, 14, 15, 16, 17, 18, 19, 20, 21, 22, 23, 24, 25, 26, 27, 28], some 227⟩, ⟨[9], [], [42], [0, 1, 2, 3, 4, 5, 6, 7, 8, 9, 10, 11, 12, 13, 14, 15, 16, 17, 18, 19, 20, 21, 22, 23, 24, 25, 26, 27, 28, 29], some 228⟩, ⟨[41, 42], [], [43], [0, 1, 2, 3, 4, 5, 6, 7, 8, 9, 10, 11, 12, 13, 14, 15, 16, 17, 18, 19, 20, 21, 22, 23, 24, 25, 26, 27, 28, 29, 30], some 229⟩, ⟨[15, 19, 23, 27, 31, 35, 39, 43], [], [44], [0, 1, 2, 3, 4, 5, 6, 7, 8, 9, 10, 11, 12, 13, 14, 15, 16, 17, 18, 19, 20, 21, 22, 23, 24, 25, 26, 27, 28, 29, 30, 31], some 230⟩, ⟨[1, 44], [11], [45], [0, 1, 2, 3, 4, 5, 6, 7, 8, 9, 10, 11, 12, 13, 14, 15, 16, 17, 18, 19, 20, 21, 22, 23, 24, 25, 26, 27, 28, 29, 30, 31, 32], none⟩] [1, 45] mixed hn hG h (by kernel_rfl) ?_ ?_
                · exact ⟨⟨rfl, fun β => (GOk.plain (op_indexAddr_lb Tryd.underlying150 Tryd.sizeOf51 (opt 0 rfl) (opc (ic (by decide))) (by decide)) rfl)⟩, ⟨rfl, fun β => (GOk.plain (op_load_lbI (i := 0) [] [] 1 Tryd.isAgg51 (opt 0 rfl) rfl rfl (by decide)) rfl)⟩, ⟨rfl, fun β => (GOk.plain (op_move (opt 0 rfl)) rfl)⟩, ⟨rfl, fun β => (GOk.plain (op_bin bin_add (opt 0 rfl) (opt 1 rfl)) rfl)⟩, ⟨rfl, fun β => (GOk.plain (op_indexAddr_lb Tryd.underlying150 Tryd.sizeOf51 (opt 0 rfl) (opc (ic (by decide))) (by decide)) rfl)⟩, ⟨rfl, fun β => (GOk.plain (op_load_lbI (i := 1) [] [] 1 Tryd.isAgg51 (opt 0 rfl) rfl rfl (by decide)) rfl)⟩, ⟨rfl, fun β => (GOk.plain (op_move (opt 0 rfl)) rfl)⟩, ⟨rfl, fun β => (GOk.plain (op_bin bin_add (opt 0 rfl) (opt 1 rfl)) rfl)⟩, ⟨rfl, fun β => (GOk.plain (op_indexAddr_lb Tryd.underlying150 Tryd.sizeOf51 (opt 0 rfl) (opc (ic (by decide))) (by decide)) rfl)⟩, ⟨rfl, fun β => (GOk.plain (op_load_lbI (i := 2) [] [] 1 Tryd.isAgg51 (opt 0 rfl) rfl rfl (by decide)) rfl)⟩, ⟨rfl, fun β => (GOk.plain (op_move (opt 0 rfl)) rfl)⟩, ⟨rfl, fun β => (GOk.plain (op_bin bin_add (opt 0 rfl) (opt 1 rfl)) rfl)⟩, ⟨rfl, fun β => (GOk.plain (op_indexAddr_lb Tryd.underlying150 Tryd.sizeOf51 (opt 0 rfl) (opc (ic (by decide))) (by decide)) rfl)⟩, ⟨rfl, fun β => (GOk.plain (op_load_lbI (i := 3) [] [] 1 Tryd.isAgg51 (opt 0 rfl) rfl rfl (by decide)) rfl)⟩, ⟨rfl, fun β => (GOk.plain (op_move (opt 0 rfl)) rfl)⟩, ⟨rfl, fun β => (GOk.plain (op_bin bin_add (opt 0 rfl) (opt 1 rfl)) rfl)⟩, ⟨rfl, fun β => (GOk.plain (op_indexAddr_lb Tryd.underlying150 Tryd.sizeOf51 (opt 0 rfl) (opc (ic (by decide))) (by decide)) rfl)⟩, ⟨rfl, fun β => (GOk.plain (op_load_lbI (i := 4) [] [] 1 Tryd.isAgg51 (opt 0 rfl) rfl rfl (by decide)) rfl)⟩, ⟨rfl, fun β => (GOk.plain (op_move (opt 0 rfl)) rfl)⟩, ⟨rfl, fun β => (GOk.plain (op_bin bin_add (opt 0 rfl) (opt 1 rfl)) rfl)⟩, ⟨rfl, fun β => (GOk.plain (op_indexAddr_lb Tryd.underlying150 Tryd.sizeOf51 (opt 0 rfl) (opc (ic (by decide))) (by decide)) rfl)⟩, ⟨rfl, fun β => (GOk.plain (op_load_lbI (i := 5) [] [] 1 Tryd.isAgg51 (opt 0 rfl) rfl rfl (by decide)) rfl)⟩, ⟨rfl, fun β => (GOk.plain (op_move (opt 0 rfl)) rfl)⟩, ⟨rfl, fun β => (GOk.plain (op_bin bin_add (opt 0 rfl) (opt 1 rfl)) rfl)⟩, ⟨rfl, fun β => (GOk.plain (op_indexAddr_lb Tryd.underlying150 Tryd.sizeOf51 (opt 0 rfl) (opc (ic (by decide))) (by decide)) rfl)⟩, ⟨rfl, fun β => (GOk.plain (op_load_lbI (i := 6) [] [] 1 Tryd.isAgg51 (opt 0 rfl) rfl rfl (by decide)) rfl)⟩, ⟨rfl, fun β => (GOk.plain (op_move (opt 0 rfl)) rfl)⟩, ⟨rfl, fun β => (GOk.plain (op_bin bin_add (opt 0 rfl) (opt 1 rfl)) rfl)⟩, ⟨rfl, fun β => (GOk.plain (op_indexAddr_lb Tryd.underlying150 Tryd.sizeOf51 (opt 0 rfl) (opc (ic (by decide))) (by decide)) rfl)⟩, ⟨rfl, fun β => (GOk.plain (op_load_lbI (i := 7) [] [] 1 Tryd.isAgg51 (opt 0 rfl) rfl rfl (by decide)) rfl)⟩, ⟨rfl, fun β => (GOk.plain (op_move (opt 0 rfl)) rfl)⟩, ⟨rfl, fun β => (GOk.plain (op_bin bin_add (opt 0 rfl) (opt 1 rfl)) rfl)⟩, ⟨rfl, fun β => (GOk.plain (op_buildI (xs := [.tmp 201, .tmp 205, .tmp 209, .tmp 213, .tmp 217, .tmp 221, .tmp 225, .tmp 229]) (ys := [IntKind.wrap .u32 ((a_0.getD (0 : Int).toNat 0) + y118), IntKind.wrap .u32 ((a_0.getD (1 : Int).toNat 0) + y119), IntKind.wrap .u32 ((a_0.getD (2 : Int).toNat 0) + y120), IntKind.wrap .u32 ((a_0.getD (3 : Int).toNat 0) + y121), IntKind.wrap .u32 ((a_0.getD (4 : Int).toNat 0) + y122), IntKind.wrap .u32 ((a_0.getD (5 : Int).toNat 0) + y123), IntKind.wrap .u32 ((a_0.getD (6 : Int).toNat 0) + y124), IntKind.wrap .u32 ((a_0.getD (7 : Int).toNat 0) + y125)]) rfl bu150 ⟨⟨_, (opt 0 rfl), (cells_one (one_int _ _))⟩, ⟨_, (opt 1 rfl), (cells_one (one_int _ _))⟩, ⟨_, (opt 2 rfl), (cells_one (one_int _ _))⟩, ⟨_, (opt 3 rfl), (cells_one (one_int _ _))⟩, ⟨_, (opt 4 rfl), (cells_one (one_int _ _))⟩, ⟨_, (opt 5 rfl), (cells_one (one_int _ _))⟩, ⟨_, (opt 6 rfl), (cells_one (one_int _ _))⟩, ⟨_, (opt 7 rfl), (cells_one (one_int _ _))⟩, trivial⟩ (by decide) rfl) rfl)⟩, ⟨rfl, fun β => (GOk.plain (op_store_lb [] [intsCk .u32 8 (List.replicate 8 0)] [] [intsCk .u32 8 ([IntKind.wrap .u32 ((a_0.getD (0 : Int).toNat 0) + y118), IntKind.wrap .u32 ((a_0.getD (1 : Int).toNat 0) + y119), IntKind.wrap .u32 ((a_0.getD (2 : Int).toNat 0) + y120), IntKind.wrap .u32 ((a_0.getD (3 : Int).toNat 0) + y121), IntKind.wrap .u32 ((a_0.getD (4 : Int).toNat 0) + y122), IntKind.wrap .u32 ((a_0.getD (5 : Int).toNat 0) + y123), IntKind.wrap .u32 ((a_0.getD (6 : Int).toNat 0) + y124), IntKind.wrap .u32 ((a_0.getD (7 : Int).toNat 0) + y125)] ++ List.replicate (8 - 8) 0)] Tryd.sizeOf150 (opt 0 rfl) (opt 1 rfl) (cells_agg _) rfl rfl rfl) rfl)⟩, trivial⟩
                clear h
                intro β a w h
                change SatL c [.slot 4 (lpVP p2 0), .res (lb p2 150 [intsCk .u32 8 ([IntKind.wrap .u32 ((a_0.getD (0 : Int).toNat 0) + y118), IntKind.wrap .u32 ((a_0.getD (1 : Int).toNat 0) + y119), IntKind.wrap .u32 ((a_0.getD (2 : Int).toNat 0) + y120), IntKind.wrap .u32 ((a_0.getD (3 : Int).toNat 0) + y121), IntKind.wrap .u32 ((a_0.getD (4 : Int).toNat 0) + y122), IntKind.wrap .u32 ((a_0.getD (5 : Int).toNat 0) + y123), IntKind.wrap .u32 ((a_0.getD (6 : Int).toNat 0) + y124), IntKind.wrap .u32 ((a_0.getD (7 : Int).toNat 0) + y125)] ++ List.replicate (8 - 8) 0)])] a w at h
                clear β
                show Code.wp Tryd.prog _ _ a w
                refine wp_ret ?_
                obtain rfl := Option.some.inj hF
                exact ⟨.inl rfl, ret1 h Tryd.results101 (r_cell 0 1 rfl rfl Tryd.isAgg150 Tryd.sizeOf150 rfl) [] [] rfl rfl rfl⟩

def ref01_After.b1 (x7 : List (UInt8)) (x8 : List Int) : Option (Flow ((List Int) × (List (UInt8))) ((List (UInt8)) × (List Int))) := (if (decide ((64 : Int) ≤ (x7.length : Int))) = true then (if (0 : Int) ≤ 0 ∧ (0 : Int) ≤ 64 ∧ (64 : Int) ≤ x7.length then ((ref01_Block x8 ((x7.take 64).drop (0 : Int).toNat)).bind fun r17 => (if (0 : Int) ≤ 64 ∧ (64 : Int) ≤ (x7.length : Int) ∧ (x7.length : Int) ≤ x7.length then some (.cont ((x7.take (x7.length : Int).toNat).drop 64, r17)) else none)) else none) else some (.brk (x7, x8)))
def ref01_After (a_0 : List Int) (a_1 : List (UInt8)) : Option ((List Int) × (List (UInt8))) := ((loopN (fun s : (List (UInt8)) × (List Int) => ref01_After.b1 s.1 s.2) (((a_1.length : Int) - 64 : Int).toNat + 2) (a_1, a_0)).bind fun cr => match cr with | .ret r => some r | .next (y23, y24) => some (y24, y23))
theorem ref01_After_ok {a_0 : List Int} {a_1 : List (UInt8)} {r : (List Int) × (List (UInt8))} (hF : ref01_After a_0 a_1 = some r) : CallOk Tryd.prog KG 90 [(aggVP [intsCk .u32 8 a_0]), (slVP bC a_1)] [] (fun _ => []) (tupVP [(aggVP [intsCk .u32 8 r.1]), (slVP bC r.2)]) := by
  refine CallOk.intro 17 Tryd.func90 rfl Tryd.ntmps90 (Nat.le_of_ble_eq_true rfl) ?_
  intro c a w hG hn h
  unfold ref01_After at hF
  change SatL c [.slot 0 (aggVP [intsCk .u32 8 a_0]), .slot 1 (slVP bC a_1)] a w at h
  refine wp_seq ?_
  refine region_do (n := 17) [.slot 2 0 100000 (fun v1_ _ => (lpVP v1_ 0)),
      .res 0 100000 (fun v1_ _ => (lb (v1_) 150 [intsCk .u32 8 a_0])),
      .slot 4 1 100000 (fun v1_ _ => (lpVP v1_ 0)),
      .res 1 100000 (fun v1_ _ => (lb (v1_) 150 [intsCk .u32 8 (List.replicate 8 0)])),
      .slot 5 100000 100000 (fun _ _ => (eqVP (.slice none 0 0)))] [0, 0, 1, 1, 2] [⟨[0], [], [2, 3], [], some 2⟩, ⟨[], [], [4, 5], [0], some 4⟩, ⟨[], [], [6], [0, 1], some 5⟩] [1, 2, 4, 3, 5] mixed hn hG h (by kernel_rfl) ?_ ?_
  · exact ⟨⟨rfl, fun β => (GOk.plain (op_box (opt 0 rfl) (cells_agg _)) rfl)⟩, ⟨rfl, fun β => (GOk.plain (op_alloc Tryd.zeroValue150 z150) rfl)⟩, ⟨rfl, fun β => (GOk.plain (op_assign (opc (ec _))) rfl)⟩, trivial⟩
  clear h
  intro β a w h
  change SatL c [.slot 1 (slVP bC a_1), .slot 2 (lpVP (β 0) 0), .slot 4 (lpVP (β 1) 0), .res (lb (β 0) 150 [intsCk .u32 8 a_0]), .res (lb (β 1) 150 [intsCk .u32 8 (List.replicate 8 0)])] a w at h
  generalize β 0 = p1 at h
  generalize β 1 = p2 at h
  clear β
  show Code.wp Tryd.prog _ _ a w
  refine wp_seq ?_
  refine wp_block ?_
  obtain ⟨cr19, hl20, hF⟩ := bind_some hF
  refine wp_mono (wp_loopN (R := (List Int) × (List (UInt8))) (S := (List (UInt8)) × (List Int)) (fun s a w => SatL c [.slot 1 (slVP bC s.1), .slot 2 (lpVP p1 0), .slot 4 (lpVP p2 0), .res (lb p1 150 [intsCk .u32 8 s.2]), .res (lb p2 150 [intsCk .u32 8 (List.replicate 8 0)])] a w) (fun res e a w => match res with | .next s => e = .exit 0 ∧ SatL c [.slot 1 (slVP bC s.1), .slot 2 (lpVP p1 0), .slot 4 (lpVP p2 0), .res (lb p1 150 [intsCk .u32 8 s.2]), .res (lb p2 150 [intsCk .u32 8 (List.replicate 8 0)])] a w | .ret r => e = .ret ∧ RetOk Tryd.prog Tryd.f90 c (tupVP [(aggVP [intsCk .u32 8 r.1]), (slVP bC r.2)]) (fun _ => []) a w) ?_ _ (a_1, a_0) _ _ _ (h.sub [0, 1, 2, 3, 4] (by rfl)) hl20) ?_
  · clear hl20 hF h
    intro s a w o h hF
    obtain ⟨x7, x8⟩ := s
    change ref01_After.b1 x7 x8 = some o at hF
    unfold ref01_After.b1 at hF
    change SatL c [.slot 1 (slVP bC x7), .slot 2 (lpVP p1 0), .slot 4 (lpVP p2 0), .res (lb p1 150 [intsCk .u32 8 x8]), .res (lb p2 150 [intsCk .u32 8 (List.replicate 8 0)])] a w at h
    refine wp_seq ?_
    refine wp_seq ?_
    refine region_do (n := 17) [.slot 6 100000 100000 (fun _ _ => (slVP bC x7)),
      .slot 7 100000 100000 (fun _ _ => (intVP .i64 (x7.length : Int))),
      .slot 8 100000 100000 (fun _ _ => (boolVP (decide ((64 : Int) ≤ (x7.length : Int)))))] [0, 1, 2] [⟨[0], [], [5], [], some 6⟩, ⟨[5], [], [6], [0], some 7⟩, ⟨[6], [], [7], [0, 1], some 8⟩] [0, 1, 2, 7, 3, 4] mixed hn hG h (by kernel_rfl) ?_ ?_
    · exact ⟨⟨rfl, fun β => (GOk.plain (op_move (opt 0 rfl)) rfl)⟩, ⟨rfl, fun β => (GOk.plain (op_len_sl Tryd.underlying129 (opt 0 rfl)) rfl)⟩, ⟨rfl, fun β => (GOk.plain (op_bin bin_geq (opt 0 rfl) (opc (ic (by decide)))) rfl)⟩, trivial⟩
    clear h
    intro β a w h
    change SatL c [.slot 1 (slVP bC x7), .slot 2 (lpVP p1 0), .slot 4 (lpVP p2 0), .slot 8 (boolVP (decide ((64 : Int) ≤ (x7.length : Int)))), .res (lb p1 150 [intsCk .u32 8 x8]), .res (lb p2 150 [intsCk .u32 8 (List.replicate 8 0)])] a w at h
    clear β
    show Code.wp Tryd.prog _ _ a w
    refine cond_L h 3 rfl (fun hb15 => ?_) (fun hb15 => ?_)
    · replace hF := tt_of hb15 hF
      replace h := h.sub [0, 1, 2, 4, 5] (by rfl)
      change SatL c [.slot 1 (slVP bC x7), .slot 2 (lpVP p1 0), .slot 4 (lpVP p2 0), .res (lb p1 150 [intsCk .u32 8 x8]), .res (lb p2 150 [intsCk .u32 8 (List.replicate 8 0)])] a w at h
      refine wp_skip ?_
      show Code.wp Tryd.prog _ _ a w
      refine wp_block ?_
      refine wp_seq ?_
      obtain ⟨hv16, hF⟩ := ite_some hF
      obtain ⟨r17, hr17, hF⟩ := bind_some hF
      refine region_do (n := 17) [.slot 9 100000 100000 (fun _ _ => (aggVP [intsCk .u32 8 x8])),
      .slot 10 100000 100000 (fun _ _ => (slVP bC x7)),
      .slot 11 100000 100000 (fun _ _ => (slVP bC ((x7.take 64).drop (0 : Int).toNat))),
      .slot 12 100000 100000 (fun _ _ => (aggVP [intsCk .u32 8 r17])),
      .res 100000 100000 (fun _ _ => (lb p1 150 [intsCk .u32 8 r17]))] [0, 1, 2, 3, 4] [⟨[1, 3], [], [5], [], some 9⟩, ⟨[0], [], [6], [], some 10⟩, ⟨[6], [], [7], [1], some 11⟩, ⟨[5, 7], [], [8], [0, 1, 2], some 12⟩, ⟨[1, 8], [3], [9], [0, 1, 2, 3], none⟩] [0, 1, 2, 9, 4] mixed hn hG h (by kernel_rfl) ?_ ?_
      · exact ⟨⟨rfl, fun β => (GOk.plain (op_load_lb [] [intsCk .u32 8 x8] [] 1 Tryd.isAgg150 Tryd.sizeOf150 (opt 0 rfl) rfl rfl rfl) rfl)⟩, ⟨rfl, fun β => (GOk.plain (op_move (opt 0 rfl)) rfl)⟩, ⟨rfl, fun β => (GOk.plain (op_slice_sl (a := 0) (b := 64) Tryd.underlying129 Tryd.sizeOf5 lens_bC (opt 0 rfl) rfl ⟨_, (opc (ic (by decide)))⟩ hv16) rfl)⟩, ⟨rfl, fun β => (GOk.plain (op_call Tryd.call101 (ref01_Block_ok hr17) ⟨(opt 0 rfl), (opt 1 rfl), trivial⟩) rfl)⟩, ⟨rfl, fun β => (GOk.plain (op_store_lb [] [intsCk .u32 8 x8] [] [intsCk .u32 8 r17] Tryd.sizeOf150 (opt 0 rfl) (opt 1 rfl) (cells_agg _) rfl rfl rfl) rfl)⟩, trivial⟩
      clear h
      intro β a w h
      change SatL c [.slot 1 (slVP bC x7), .slot 2 (lpVP p1 0), .slot 4 (lpVP p2 0), .res (lb p1 150 [intsCk .u32 8 r17]), .res (lb p2 150 [intsCk .u32 8 (List.replicate 8 0)])] a w at h
      clear β
      show Code.wp Tryd.prog _ _ a w
      obtain ⟨hv18, hF⟩ := ite_some hF
      refine region_do (n := 17) [.slot 13 100000 100000 (fun _ _ => (slVP bC x7)),
      .slot 14 100000 100000 (fun _ _ => (slVP bC ((x7.take (x7.length : Int).toNat).drop 64))),
      .slot 1 100000 100000 (fun _ _ => (slVP bC ((x7.take (x7.length : Int).toNat).drop 64)))] [0, 1, 2] [⟨[0], [], [5], [], some 13⟩, ⟨[5], [], [6], [0], some 14⟩, ⟨[6], [0], [7], [0, 1], some 1⟩] [7, 1, 2, 3, 4] mixed hn hG h (by kernel_rfl) ?_ ?_
      · exact ⟨⟨rfl, fun β => (GOk.plain (op_move (opt 0 rfl)) rfl)⟩, ⟨rfl, fun β => (GOk.plain (op_slice_sl (a := 64) (b := (x7.length : Int)) Tryd.underlying129 Tryd.sizeOf5 lens_bC (opt 0 rfl) ⟨_, (opc (ic (by decide)))⟩ rfl hv18) rfl)⟩, ⟨rfl, fun β => (GOk.drop _ (GOk.plain (op_assign (opt 0 rfl)) rfl))⟩, trivial⟩
      clear h
      intro β a w h
      change SatL c [.slot 1 (slVP bC ((x7.take (x7.length : Int).toNat).drop 64)), .slot 2 (lpVP p1 0), .slot 4 (lpVP p2 0), .res (lb p1 150 [intsCk .u32 8 r17]), .res (lb p2 150 [intsCk .u32 8 (List.replicate 8 0)])] a w at h
      clear β
      obtain rfl := Option.some.inj hF
      exact ⟨rfl, h.sub [0, 1, 2, 3, 4] (by rfl)⟩
    · replace hF := ff_of hb15 hF
      replace h := h.sub [0, 1, 2, 4, 5] (by rfl)
      change SatL c [.slot 1 (slVP bC x7), .slot 2 (lpVP p1 0), .slot 4 (lpVP p2 0), .res (lb p1 150 [intsCk .u32 8 x8]), .res (lb p2 150 [intsCk .u32 8 (List.replicate 8 0)])] a w at h
      refine wp_exit ?_
      obtain rfl := Option.some.inj hF
      exact ⟨exit_ne _, rfl, h.sub [0, 1, 2, 3, 4] (by rfl)⟩
  · clear hl20
    intro e a w hq
    cases cr19 with
    | ret r21 =>
      obtain ⟨rfl, hq⟩ := hq
      obtain rfl := Option.some.inj hF
      exact ⟨.inl rfl, hq⟩
    | next s22 =>
      obtain ⟨y23, y24⟩ := s22
      obtain ⟨rfl, h⟩ := hq
      change SatL c [.slot 1 (slVP bC y23), .slot 2 (lpVP p1 0), .slot 4 (lpVP p2 0), .res (lb p1 150 [intsCk .u32 8 y24]), .res (lb p2 150 [intsCk .u32 8 (List.replicate 8 0)])] a w at h
      refine inBlock_at ?_
      show Code.wp Tryd.prog _ _ a w
      refine wp_seq ?_
      refine region_do (n := 17) [.slot 15 100000 100000 (fun _ _ => (aggVP [intsCk .u32 8 y24])),
      .slot 16 100000 100000 (fun _ _ => (slVP bC y23)),
      .res 100000 100000 (fun _ _ => (lb p2 150 [intsCk .u32 8 y24])),
      .slot 5 100000 100000 (fun _ _ => (slVP bC y23))] [0, 1, 2, 3] [⟨[1, 3], [], [5], [], some 15⟩, ⟨[0], [], [6], [0], some 16⟩, ⟨[2, 5], [4], [7], [0, 1], none⟩, ⟨[6], [], [8], [0, 1, 2], some 5⟩] [2, 8, 7] mixed hn hG h (by kernel_rfl) ?_ ?_
      · exact ⟨⟨rfl, fun β => (GOk.plain (op_load_lb [] [intsCk .u32 8 y24] [] 1 Tryd.isAgg150 Tryd.sizeOf150 (opt 0 rfl) rfl rfl rfl) rfl)⟩, ⟨rfl, fun β => (GOk.plain (op_move (opt 0 rfl)) rfl)⟩, ⟨rfl, fun β => (GOk.plain (op_store_lb [] [intsCk .u32 8 (List.replicate 8 0)] [] [intsCk .u32 8 y24] Tryd.sizeOf150 (opt 0 rfl) (opt 1 rfl) (cells_agg _) rfl rfl rfl) rfl)⟩, ⟨rfl, fun β => (GOk.plain (op_assign (opt 0 rfl)) rfl)⟩, trivial⟩
      clear h
      intro β a w h
      change SatL c [.slot 4 (lpVP p2 0), .slot 5 (slVP bC y23), .res (lb p2 150 [intsCk .u32 8 y24])] a w at h
      clear β
      show Code.wp Tryd.prog _ _ a w
      refine wp_ret ?_
      obtain rfl := Option.some.inj hF
      exact ⟨.inl rfl, retn h (rs := [.cell 4 150, .tmp 5]) (Vs := [(aggVP [intsCk .u32 8 y24]), (slVP bC y23)]) Tryd.results90 (by decide) ⟨(r_cell 0 2 rfl rfl Tryd.isAgg150 Tryd.sizeOf150 rfl), (r_tmp 1 rfl), trivial⟩ [] [] rfl rfl rfl⟩

def ref01_First : Option (List Int) := some ([1779033703, 3144134277, 1013904242, 2773480762, 1359893119, 2600822924, 528734635, 1541459225] ++ List.replicate (8 - 8) 0)
theorem ref01_First_ok {r : (List Int)} (hF : ref01_First = some r) : CallOk Tryd.prog KG 91 [] [] (fun _ => []) (aggVP [intsCk .u32 8 r]) := by
  refine CallOk.intro 2 Tryd.func91 rfl Tryd.ntmps91 (Nat.le_of_ble_eq_true rfl) ?_
  intro c a w hG hn h
  unfold ref01_First at hF
  change SatL c [] a w at h
  refine wp_seq ?_
  refine region_do (n := 2) [.slot 0 0 100000 (fun v1_ _ => (lpVP v1_ 0)),
      .res 0 100000 (fun v1_ _ => (lb (v1_) 150 [intsCk .u32 8 (List.replicate 8 0)]))] [0, 0] [⟨[], [], [0, 1], [], some 0⟩] [0, 1] mixed hn hG h (by kernel_rfl) ?_ ?_
  · exact ⟨⟨rfl, fun β => (GOk.plain (op_alloc Tryd.zeroValue150 z150) rfl)⟩, trivial⟩
  clear h
  intro β a w h
  change SatL c [.slot 0 (lpVP (β 0) 0), .res (lb (β 0) 150 [intsCk .u32 8 (List.replicate 8 0)])] a w at h
  generalize β 0 = p1 at h
  clear β
  show Code.wp Tryd.prog _ _ a w
  refine wp_seq ?_
  refine region_do (n := 2) [.slot 1 100000 100000 (fun _ _ => (aggVP [intsCk .u32 8 ([1779033703, 3144134277, 1013904242, 2773480762, 1359893119, 2600822924, 528734635, 1541459225] ++ List.replicate (8 - 8) 0)])),
      .res 100000 100000 (fun _ _ => (lb p1 150 [intsCk .u32 8 ([1779033703, 3144134277, 1013904242, 2773480762, 1359893119, 2600822924, 528734635, 1541459225] ++ List.replicate (8 - 8) 0)]))] [0, 1] [⟨[], [], [2], [], some 1⟩, ⟨[0, 2], [1], [3], [0], none⟩] [0, 3] mixed hn hG h (by kernel_rfl) ?_ ?_
  · exact ⟨⟨rfl, fun β => (GOk.plain (op_buildI (xs := [.const (.int .u32 1779033703), .const (.int .u32 3144134277), .const (.int .u32 1013904242), .const (.int .u32 2773480762), .const (.int .u32 1359893119), .const (.int .u32 2600822924), .const (.int .u32 528734635), .const (.int .u32 1541459225)]) (ys := [1779033703, 3144134277, 1013904242, 2773480762, 1359893119, 2600822924, 528734635, 1541459225]) rfl bu150 ⟨⟨_, (opc (ic (by decide))), (cells_one (one_int _ _))⟩, ⟨_, (opc (ic (by decide))), (cells_one (one_int _ _))⟩, ⟨_, (opc (ic (by decide))), (cells_one (one_int _ _))⟩, ⟨_, (opc (ic (by decide))), (cells_one (one_int _ _))⟩, ⟨_, (opc (ic (by decide))), (cells_one (one_int _ _))⟩, ⟨_, (opc (ic (by decide))), (cells_one (one_int _ _))⟩, ⟨_, (opc (ic (by decide))), (cells_one (one_int _ _))⟩, ⟨_, (opc (ic (by decide))), (cells_one (one_int _ _))⟩, trivial⟩ (by decide) rfl) rfl)⟩, ⟨rfl, fun β => (GOk.plain (op_store_lb [] [intsCk .u32 8 (List.replicate 8 0)] [] [intsCk .u32 8 ([1779033703, 3144134277, 1013904242, 2773480762, 1359893119, 2600822924, 528734635, 1541459225] ++ List.replicate (8 - 8) 0)] Tryd.sizeOf150 (opt 0 rfl) (opt 1 rfl) (cells_agg _) rfl rfl rfl) rfl)⟩, trivial⟩
  clear h
  intro β a w h
  change SatL c [.slot 0 (lpVP p1 0), .res (lb p1 150 [intsCk .u32 8 ([1779033703, 3144134277, 1013904242, 2773480762, 1359893119, 2600822924, 528734635, 1541459225] ++ List.replicate (8 - 8) 0)])] a w at h
  clear β
  show Code.wp Tryd.prog _ _ a w
  refine wp_ret ?_
  obtain rfl := Option.some.inj hF
  exact ⟨.inl rfl, ret1 h Tryd.results91 (r_cell 0 1 rfl rfl Tryd.isAgg150 Tryd.sizeOf150 rfl) [] [] rfl rfl rfl⟩

def ref01_End.b1 (x11 : List (UInt8)) : Option (Flow (List UInt8) (List (UInt8))) := (if (!decide (((x11.length : Int).tmod 64) = (56 : Int))) = true then (if x11.length + [u8of 0].length ≤ mxl ∧ (x11.length + [u8of 0].length) * 1 ≤ 140737488355328 then some (.cont (x11 ++ [u8of 0])) else none) else some (.brk x11))
def ref01_End.b2 (a_2 : Int) (x29 : Int) (x30 : List (UInt8)) : Option (Flow (List UInt8) (Int × (List (UInt8)))) := (if (decide (x29 < (8 : Int))) = true then (if x30.length + [u8of (IntKind.wrap .u8 (shr .u64 (IntKind.wrap .u64 (8 * a_2)) (IntKind.wrap .u64 (IntKind.wrap .i64 (56 - (IntKind.wrap .i64 (8 * x29)))))))].length ≤ mxl ∧ (x30.length + [u8of (IntKind.wrap .u8 (shr .u64 (IntKind.wrap .u64 (8 * a_2)) (IntKind.wrap .u64 (IntKind.wrap .i64 (56 - (IntKind.wrap .i64 (8 * x29)))))))].length) * 1 ≤ 140737488355328 then some (.cont (IntKind.wrap .i64 (x29 + 1), x30 ++ [u8of (IntKind.wrap .u8 (shr .u64 (IntKind.wrap .u64 (8 * a_2)) (IntKind.wrap .u64 (IntKind.wrap .i64 (56 - (IntKind.wrap .i64 (8 * x29)))))))])) else none) else some (.brk (x29, x30)))
def ref01_End.b3 (r47 : (List Int) × (List (UInt8))) (x51 : Int) (x52 : List UInt8) : Option (Flow (List UInt8) (Int × (List UInt8))) := (if (decide (x51 < (32 : Int))) = true then (if (0 : Int) ≤ IntKind.wrap .i64 (x51.tdiv 4) ∧ IntKind.wrap .i64 (x51.tdiv 4) < 8 then (if (0 : Int) ≤ x51 ∧ x51 < 32 then some (.cont (IntKind.wrap .i64 (x51 + 1), x52.set x51.toNat (u8of (IntKind.wrap .u8 (shr .u32 (r47.1.getD (IntKind.wrap .i64 (x51.tdiv 4)).toNat 0) (IntKind.wrap .u64 (IntKind.wrap .i64 (24 - (IntKind.wrap .i64 (8 * (x51.tmod 4))))))))))) else none) else none) else some (.brk (x51, x52)))
def ref01_End (a_0 : List Int) (a_1 : List (UInt8)) (a_2 : Int) : Option (List UInt8) := (if ([] : List UInt8).length + a_1.length ≤ mxl ∧ (([] : List UInt8).length + a_1.length) * 1 ≤ 140737488355328 then (if (([] : List UInt8) ++ a_1).length + [u8of 128].length ≤ mxl ∧ ((([] : List UInt8) ++ a_1).length + [u8of 128].length) * 1 ≤ 140737488355328 then ((loopN (fun s : (List (UInt8)) => ref01_End.b1 s) 100000 ((([] : List UInt8) ++ a_1) ++ [u8of 128])).bind fun cr => match cr with | .ret r => some r | .next y25 => ((loopN (fun s : Int × (List (UInt8)) => ref01_End.b2 a_2 s.1 s.2) ((8 - 0 : Int).toNat + 2) (0, y25)).bind fun cr => match cr with | .ret r => some r | .next (y45, y46) => ((ref01_After a_0 y46).bind fun r47 => ((loopN (fun s : Int × (List UInt8) => ref01_End.b3 r47 s.1 s.2) ((32 - 0 : Int).toNat + 2) (0, (List.replicate 32 0))).bind fun cr => match cr with | .ret r => some r | .next (y65, y66) => some y66)))) else none) else none)
theorem ref01_End_ok {a_0 : List Int} {a_1 : List (UInt8)} {a_2 : Int} {r : (List UInt8)} (hF : ref01_End a_0 a_1 a_2 = some r) : CallOk Tryd.prog KG 92 [(aggVP [intsCk .u32 8 a_0]), (slVP bC a_1), (intVP .u64 a_2)] [] (fun _ => []) (aggVP [bytesCk 32 r]) := by
  refine CallOk.intro 65 Tryd.func92 rfl Tryd.ntmps92 (Nat.le_of_ble_eq_true rfl) ?_
  intro c a w hG hn h
  unfold ref01_End at hF
  change SatL c [.slot 0 (aggVP [intsCk .u32 8 a_0]), .slot 1 (slVP bC a_1), .slot 2 (intVP .u64 a_2)] a w at h
  refine wp_seq ?_
  refine region_do (n := 65) [.slot 3 0 100000 (fun v1_ _ => (lpVP v1_ 0)),
      .res 0 100000 (fun v1_ _ => (lb (v1_) 150 [intsCk .u32 8 a_0])),
      .slot 6 1 100000 (fun v1_ _ => (lpVP v1_ 0)),
      .res 1 100000 (fun v1_ _ => (lb (v1_) 23 [bytesCk 32 (List.replicate 32 0)]))] [0, 0, 1, 1] [⟨[0], [], [3, 4], [], some 3⟩, ⟨[], [], [5, 6], [0], some 6⟩] [1, 2, 3, 5, 4, 6] mixed hn hG h (by kernel_rfl) ?_ ?_
  · exact ⟨⟨rfl, fun β => (GOk.plain (op_box (opt 0 rfl) (cells_agg _)) rfl)⟩, ⟨rfl, fun β => (GOk.plain (op_alloc Tryd.zeroValue23 z23) rfl)⟩, trivial⟩
  clear h
  intro β a w h
  change SatL c [.slot 1 (slVP bC a_1), .slot 2 (intVP .u64 a_2), .slot 3 (lpVP (β 0) 0), .slot 6 (lpVP (β 1) 0), .res (lb (β 0) 150 [intsCk .u32 8 a_0]), .res (lb (β 1) 23 [bytesCk 32 (List.replicate 32 0)])] a w at h
  generalize β 0 = p1 at h
  generalize β 1 = p2 at h
  clear β
  show Code.wp Tryd.prog _ _ a w
  refine wp_seq ?_
  refine region_do (n := 65) [.slot 7 100000 100000 (fun _ _ => (eqVP (.slice none 0 0)))] [0] [⟨[], [], [6], [], some 7⟩] [0, 1, 2, 3, 6, 4, 5] mixed hn hG h (by kernel_rfl) ?_ ?_
  · exact ⟨⟨rfl, fun β => (GOk.plain (op_assign (opc (ec _))) rfl)⟩, trivial⟩
  clear h
  intro β a w h
  change SatL c [.slot 1 (slVP bC a_1), .slot 2 (intVP .u64 a_2), .slot 3 (lpVP p1 0), .slot 6 (lpVP p2 0), .slot 7 (eqVP (.slice none 0 0)), .res (lb p1 150 [intsCk .u32 8 a_0]), .res (lb p2 23 [bytesCk 32 (List.replicate 32 0)])] a w at h
  clear β
  show Code.wp Tryd.prog _ _ a w
  refine wp_seq ?_
  obtain ⟨q3, h⟩ : ∃ q3 : Value, SatL c [.slot 1 (slVP bC a_1), .slot 2 (intVP .u64 a_2), .slot 3 (lpVP p1 0), .slot 6 (lpVP p2 0), .slot 7 (eqVP q3), .res (lb p1 150 [intsCk .u32 8 a_0]), .res (lb p2 23 [bytesCk 32 (List.replicate 32 0)]), .res (acc q3 5 1 bC ([] : List UInt8))] a w := ⟨.slice none 0 0, (h.nilacc 5 1 bC).sub [0, 1, 2, 3, 4, 5, 6, 7] (by rfl)⟩
  obtain ⟨hv4, hF⟩ := ite_some hF
  refine region_do (n := 65) [.slot 12 100000 100000 (fun _ _ => (eqVP q3)),
      .slot 13 100000 100000 (fun _ _ => (slVP bC a_1)),
      .slot 14 2 100000 (fun v1_ _ => (eqVP v1_)),
      .res 2 100000 (fun v1_ _ => (acc (v1_) 5 1 bC (([] : List UInt8) ++ a_1))),
      .slot 7 2 100000 (fun v1_ _ => (eqVP v1_))] [0, 1, 2, 2, 3] [⟨[4], [], [8], [], some 12⟩, ⟨[0], [], [9], [0], some 13⟩, ⟨[8, 9], [7], [10, 11], [0, 1], some 14⟩, ⟨[10], [4], [12], [0, 1, 2], some 7⟩] [1, 2, 3, 12, 5, 6, 11] mixed hn hG h (by kernel_rfl) ?_ ?_
  · exact ⟨⟨rfl, fun β => (GOk.plain (op_move (opt 0 rfl)) rfl)⟩, ⟨rfl, fun β => (GOk.plain (op_move (opt 0 rfl)) rfl)⟩, ⟨rfl, fun β => (GOk.plain (op_append (i := Tryd.t5) Tryd.underlying129 Tryd.type5 rfl lens_bC (by decide) rfl (opt 0 rfl) (opt 1 rfl) hv4) rfl)⟩, ⟨rfl, fun β => (GOk.drop _ (GOk.plain (op_assign (V := (eqVP (β 2))) (opt 0 rfl)) rfl))⟩, trivial⟩
  clear h
  intro β a w h
  change SatL c [.slot 2 (intVP .u64 a_2), .slot 3 (lpVP p1 0), .slot 6 (lpVP p2 0), .slot 7 (eqVP (β 2)), .res (lb p1 150 [intsCk .u32 8 a_0]), .res (lb p2 23 [bytesCk 32 (List.replicate 32 0)]), .res (acc (β 2) 5 1 bC (([] : List UInt8) ++ a_1))] a w at h
  generalize β 2 = p5 at h
  clear β
  show Code.wp Tryd.prog _ _ a w
  refine wp_seq ?_
  obtain ⟨hv6, hF⟩ := ite_some hF
  refine region_do (n := 65) [.slot 15 100000 100000 (fun _ _ => (eqVP p5)),
      .slot 16 100000 100000 (fun _ _ => (slVP bC [u8of 128])),
      .slot 17 2 100000 (fun v1_ _ => (eqVP v1_)),
      .res 2 100000 (fun v1_ _ => (acc (v1_) 5 1 bC ((([] : List UInt8) ++ a_1) ++ [u8of 128]))),
      .slot 7 2 100000 (fun v1_ _ => (eqVP v1_))] [0, 1, 2, 2, 3] [⟨[3], [], [7], [], some 15⟩, ⟨[], [], [8], [0], some 16⟩, ⟨[7, 8], [6], [9, 10], [0, 1], some 17⟩, ⟨[9], [3], [11], [0, 1, 2], some 7⟩] [0, 1, 2, 11, 4, 5, 10] mixed hn hG h (by kernel_rfl) ?_ ?_
  · exact ⟨⟨rfl, fun β => (GOk.plain (op_move (opt 0 rfl)) rfl)⟩, ⟨rfl, fun β => (GOk.plain (op_lit (xs := [.const (.int .u8 128)]) (ys := [u8of 128]) _ rfl Tryd.underlying129 Tryd.sizeOf5 Tryd.zeroValue5 rfl rfl (by decide) (by decide) ⟨⟨_, (opc (ic (by decide))), (cells_u8 _)⟩, trivial⟩ lens_bC) rfl)⟩, ⟨rfl, fun β => (GOk.plain (op_append (i := Tryd.t5) Tryd.underlying129 Tryd.type5 rfl lens_bC (by decide) rfl (opt 0 rfl) (opt 1 rfl) hv6) rfl)⟩, ⟨rfl, fun β => (GOk.drop _ (GOk.plain (op_assign (V := (eqVP (β 2))) (opt 0 rfl)) rfl))⟩, trivial⟩
  clear h
  intro β a w h
  change SatL c [.slot 2 (intVP .u64 a_2), .slot 3 (lpVP p1 0), .slot 6 (lpVP p2 0), .slot 7 (eqVP (β 2)), .res (lb p1 150 [intsCk .u32 8 a_0]), .res (lb p2 23 [bytesCk 32 (List.replicate 32 0)]), .res (acc (β 2) 5 1 bC ((([] : List UInt8) ++ a_1) ++ [u8of 128]))] a w at h
  generalize β 2 = p7 at h
  clear β
  show Code.wp Tryd.prog _ _ a w
  refine wp_seq ?_
  refine wp_block ?_
  obtain ⟨cr21, hl22, hF⟩ := bind_some hF
  refine wp_mono (wp_loopN (R := (List UInt8)) (S := (List (UInt8))) (fun s a w => ∃ q12 : Value, SatL c [.slot 2 (intVP .u64 a_2), .slot 3 (lpVP p1 0), .slot 6 (lpVP p2 0), .slot 7 (eqVP q12), .res (lb p1 150 [intsCk .u32 8 a_0]), .res (lb p2 23 [bytesCk 32 (List.replicate 32 0)]), .res (acc q12 5 1 bC s)] a w) (fun res e a w => match res with | .next s => e = .exit 0 ∧ ∃ q12 : Value, SatL c [.slot 2 (intVP .u64 a_2), .slot 3 (lpVP p1 0), .slot 6 (lpVP p2 0), .slot 7 (eqVP q12), .res (lb p1 150 [intsCk .u32 8 a_0]), .res (lb p2 23 [bytesCk 32 (List.replicate 32 0)]), .res (acc q12 5 1 bC s)] a w | .ret r => e = .ret ∧ RetOk Tryd.prog Tryd.f92 c (aggVP [bytesCk 32 r]) (fun _ => []) a w) ?_ _ ((([] : List UInt8) ++ a_1) ++ [u8of 128]) _ _ _ ⟨p7, (h.sub [0, 1, 2, 3, 4, 5, 6] (by rfl))⟩ hl22) ?_
  · clear hl22 hF h
    intro x11 a w o h hF
    obtain ⟨q12, h⟩ := h
    change ref01_End.b1 x11 = some o at hF
    unfold ref01_End.b1 at hF
    change SatL c [.slot 2 (intVP .u64 a_2), .slot 3 (lpVP p1 0), .slot 6 (lpVP p2 0), .slot 7 (eqVP q12), .res (lb p1 150 [intsCk .u32 8 a_0]), .res (lb p2 23 [bytesCk 32 (List.replicate 32 0)]), .res (acc q12 5 1 bC x11)] a w at h
    refine wp_seq ?_
    refine wp_seq ?_
    refine region_do (n := 65) [.slot 18 100000 100000 (fun _ _ => (eqVP q12)),
      .slot 19 100000 100000 (fun _ _ => (intVP .i64 (x11.length : Int))),
      .slot 20 100000 100000 (fun _ _ => (intVP .i64 ((x11.length : Int).tmod 64))),
      .slot 21 100000 100000 (fun _ _ => (boolVP (!decide (((x11.length : Int).tmod 64) = (56 : Int)))))] [0, 1, 2, 3] [⟨[3], [], [7], [], some 18⟩, ⟨[7, 6], [], [8], [0], some 19⟩, ⟨[8], [], [9], [0, 1], some 20⟩, ⟨[9], [], [10], [0, 1, 2], some 21⟩] [0, 1, 2, 3, 10, 4, 5, 6] mixed hn hG h (by kernel_rfl) ?_ ?_
    · exact ⟨⟨rfl, fun β => (GOk.plain (op_move (opt 0 rfl)) rfl)⟩, ⟨rfl, fun β => (GOk.plain (op_len_sl Tryd.underlying129 (opacc 0 1 rfl rfl)) rfl)⟩, ⟨rfl, fun β => (GOk.plain (op_bin (bin_rem (by decide)) (opt 0 rfl) (opc (ic (by decide)))) rfl)⟩, ⟨rfl, fun β => (GOk.plain (op_bin bin_neq (opt 0 rfl) (opc (ic (by decide)))) rfl)⟩, trivial⟩
    clear h
    intro β a w h
    change SatL c [.slot 2 (intVP .u64 a_2), .slot 3 (lpVP p1 0), .slot 6 (lpVP p2 0), .slot 7 (eqVP q12), .slot 21 (boolVP (!decide (((x11.length : Int).tmod 64) = (56 : Int)))), .res (lb p1 150 [intsCk .u32 8 a_0]), .res (lb p2 23 [bytesCk 32 (List.replicate 32 0)]), .res (acc q12 5 1 bC x11)] a w at h
    clear β
    show Code.wp Tryd.prog _ _ a w
    refine cond_L h 4 rfl (fun hb18 => ?_) (fun hb18 => ?_)
    · replace hF := tt_of hb18 hF
      replace h := h.sub [0, 1, 2, 3, 5, 6, 7] (by rfl)
      change SatL c [.slot 2 (intVP .u64 a_2), .slot 3 (lpVP p1 0), .slot 6 (lpVP p2 0), .slot 7 (eqVP q12), .res (lb p1 150 [intsCk .u32 8 a_0]), .res (lb p2 23 [bytesCk 32 (List.replicate 32 0)]), .res (acc q12 5 1 bC x11)] a w at h
      refine wp_skip ?_
      show Code.wp Tryd.prog _ _ a w
      refine wp_block ?_
      obtain ⟨hv19, hF⟩ := ite_some hF
      refine region_do (n := 65) [.slot 22 100000 100000 (fun _ _ => (eqVP q12)),
      .slot 23 100000 100000 (fun _ _ => (slVP bC [u8of 0])),
      .slot 24 2 100000 (fun v1_ _ => (eqVP v1_)),
      .res 2 100000 (fun v1_ _ => (acc (v1_) 5 1 bC (x11 ++ [u8of 0]))),
      .slot 7 2 100000 (fun v1_ _ => (eqVP v1_))] [0, 1, 2, 2, 3] [⟨[3], [], [7], [], some 22⟩, ⟨[], [], [8], [0], some 23⟩, ⟨[7, 8], [6], [9, 10], [0, 1], some 24⟩, ⟨[9], [3], [11], [0, 1, 2], some 7⟩] [0, 1, 2, 11, 4, 5, 10] mixed hn hG h (by kernel_rfl) ?_ ?_
      · exact ⟨⟨rfl, fun β => (GOk.plain (op_move (opt 0 rfl)) rfl)⟩, ⟨rfl, fun β => (GOk.plain (op_lit (xs := [.const (.int .u8 0)]) (ys := [u8of 0]) _ rfl Tryd.underlying129 Tryd.sizeOf5 Tryd.zeroValue5 rfl rfl (by decide) (by decide) ⟨⟨_, (opc (ic (by decide))), (cells_u8 _)⟩, trivial⟩ lens_bC) rfl)⟩, ⟨rfl, fun β => (GOk.plain (op_append (i := Tryd.t5) Tryd.underlying129 Tryd.type5 rfl lens_bC (by decide) rfl (opt 0 rfl) (opt 1 rfl) hv19) rfl)⟩, ⟨rfl, fun β => (GOk.drop _ (GOk.plain (op_assign (V := (eqVP (β 2))) (opt 0 rfl)) rfl))⟩, trivial⟩
      clear h
      intro β a w h
      change SatL c [.slot 2 (intVP .u64 a_2), .slot 3 (lpVP p1 0), .slot 6 (lpVP p2 0), .slot 7 (eqVP (β 2)), .res (lb p1 150 [intsCk .u32 8 a_0]), .res (lb p2 23 [bytesCk 32 (List.replicate 32 0)]), .res (acc (β 2) 5 1 bC (x11 ++ [u8of 0]))] a w at h
      generalize β 2 = p20 at h
      clear β
      obtain rfl := Option.some.inj hF
      exact ⟨rfl, p20, h.sub [0, 1, 2, 3, 4, 5, 6] (by rfl)⟩
    · replace hF := ff_of hb18 hF
      replace h := h.sub [0, 1, 2, 3, 5, 6, 7] (by rfl)
      change SatL c [.slot 2 (intVP .u64 a_2), .slot 3 (lpVP p1 0), .slot 6 (lpVP p2 0), .slot 7 (eqVP q12), .res (lb p1 150 [intsCk .u32 8 a_0]), .res (lb p2 23 [bytesCk 32 (List.replicate 32 0)]), .res (acc q12 5 1 bC x11)] a w at h
      refine wp_exit ?_
      obtain rfl := Option.some.inj hF
      exact ⟨exit_ne _, rfl, q12, h.sub [0, 1, 2, 3, 4, 5, 6] (by rfl)⟩
  · clear hl22
    intro e a w hq
    cases cr21 with
    | ret r23 =>
      obtain ⟨rfl, hq⟩ := hq
      obtain rfl := Option.some.inj hF
      exact ⟨.inl rfl, hq⟩
    | next y25 =>
      obtain ⟨rfl, q12, h⟩ := hq
      change SatL c [.slot 2 (intVP .u64 a_2), .slot 3 (lpVP p1 0), .slot 6 (lpVP p2 0), .slot 7 (eqVP q12), .res (lb p1 150 [intsCk .u32 8 a_0]), .res (lb p2 23 [bytesCk 32 (List.replicate 32 0)]), .res (acc q12 5 1 bC y25)] a w at h
      refine inBlock_at ?_
      show Code.wp Tryd.prog _ _ a w
      refine wp_seq ?_
      refine region_do (n := 65) [.slot 25 100000 100000 (fun _ _ => (intVP .u64 a_2)),
      .slot 26 100000 100000 (fun _ _ => (intVP .u64 (IntKind.wrap .u64 (8 * a_2)))),
      .slot 8 100000 100000 (fun _ _ => (intVP .u64 (IntKind.wrap .u64 (8 * a_2))))] [0, 1, 2] [⟨[0], [], [7], [], some 25⟩, ⟨[7], [], [8], [0], some 26⟩, ⟨[8], [], [9], [0, 1], some 8⟩] [1, 2, 3, 9, 4, 5, 6] mixed hn hG h (by kernel_rfl) ?_ ?_
      · exact ⟨⟨rfl, fun β => (GOk.plain (op_move (opt 0 rfl)) rfl)⟩, ⟨rfl, fun β => (GOk.plain (op_bin bin_mul (opc (ic (by decide))) (opt 0 rfl)) rfl)⟩, ⟨rfl, fun β => (GOk.plain (op_assign (opt 0 rfl)) rfl)⟩, trivial⟩
      clear h
      intro β a w h
      change SatL c [.slot 3 (lpVP p1 0), .slot 6 (lpVP p2 0), .slot 7 (eqVP q12), .slot 8 (intVP .u64 (IntKind.wrap .u64 (8 * a_2))), .res (lb p1 150 [intsCk .u32 8 a_0]), .res (lb p2 23 [bytesCk 32 (List.replicate 32 0)]), .res (acc q12 5 1 bC y25)] a w at h
      clear β
      show Code.wp Tryd.prog _ _ a w
      refine wp_seq ?_
      refine wp_seq ?_
      refine region_do (n := 65) [.slot 9 100000 100000 (fun _ _ => (intVP .i64 0))] [0] [⟨[], [], [7], [], some 9⟩] [0, 1, 2, 3, 7, 4, 5, 6] mixed hn hG h (by kernel_rfl) ?_ ?_
      · exact ⟨⟨rfl, fun β => (GOk.plain (op_assign (opc (ic (by decide)))) rfl)⟩, trivial⟩
      clear h
      intro β a w h
      change SatL c [.slot 3 (lpVP p1 0), .slot 6 (lpVP p2 0), .slot 7 (eqVP q12), .slot 8 (intVP .u64 (IntKind.wrap .u64 (8 * a_2))), .slot 9 (intVP .i64 0), .res (lb p1 150 [intsCk .u32 8 a_0]), .res (lb p2 23 [bytesCk 32 (List.replicate 32 0)]), .res (acc q12 5 1 bC y25)] a w at h
      clear β
      show Code.wp Tryd.prog _ _ a w
      refine wp_block ?_
      obtain ⟨cr41, hl42, hF⟩ := bind_some hF
      refine wp_mono (wp_loopN (R := (List UInt8)) (S := Int × (List (UInt8))) (fun s a w => ∃ q31 : Value, SatL c [.slot 3 (lpVP p1 0), .slot 6 (lpVP p2 0), .slot 7 (eqVP q31), .slot 8 (intVP .u64 (IntKind.wrap .u64 (8 * a_2))), .slot 9 (intVP .i64 s.1), .res (lb p1 150 [intsCk .u32 8 a_0]), .res (lb p2 23 [bytesCk 32 (List.replicate 32 0)]), .res (acc q31 5 1 bC s.2)] a w) (fun res e a w => match res with | .next s => e = .exit 2 ∧ ∃ q31 : Value, SatL c [.slot 3 (lpVP p1 0), .slot 6 (lpVP p2 0), .slot 7 (eqVP q31), .res (lb p1 150 [intsCk .u32 8 a_0]), .res (lb p2 23 [bytesCk 32 (List.replicate 32 0)]), .res (acc q31 5 1 bC s.2)] a w | .ret r => e = .ret ∧ RetOk Tryd.prog Tryd.f92 c (aggVP [bytesCk 32 r]) (fun _ => []) a w) ?_ _ (0, y25) _ _ _ ⟨q12, (h.sub [0, 1, 2, 3, 4, 5, 6, 7] (by rfl))⟩ hl42) ?_
      · clear hl42 hF h
        intro s a w o h hF
        obtain ⟨x29, x30⟩ := s
        obtain ⟨q31, h⟩ := h
        change ref01_End.b2 a_2 x29 x30 = some o at hF
        unfold ref01_End.b2 at hF
        change SatL c [.slot 3 (lpVP p1 0), .slot 6 (lpVP p2 0), .slot 7 (eqVP q31), .slot 8 (intVP .u64 (IntKind.wrap .u64 (8 * a_2))), .slot 9 (intVP .i64 x29), .res (lb p1 150 [intsCk .u32 8 a_0]), .res (lb p2 23 [bytesCk 32 (List.replicate 32 0)]), .res (acc q31 5 1 bC x30)] a w at h
        refine wp_seq ?_
        refine wp_seq ?_
        refine region_do (n := 65) [.slot 27 100000 100000 (fun _ _ => (intVP .i64 x29)),
      .slot 28 100000 100000 (fun _ _ => (boolVP (decide (x29 < (8 : Int)))))] [0, 1] [⟨[4], [], [8], [], some 27⟩, ⟨[8], [], [9], [0], some 28⟩] [0, 1, 2, 3, 4, 9, 5, 6, 7] mixed hn hG h (by kernel_rfl) ?_ ?_
        · exact ⟨⟨rfl, fun β => (GOk.plain (op_move (opt 0 rfl)) rfl)⟩, ⟨rfl, fun β => (GOk.plain (op_bin bin_lss (opt 0 rfl) (opc (ic (by decide)))) rfl)⟩, trivial⟩
        clear h
        intro β a w h
        change SatL c [.slot 3 (lpVP p1 0), .slot 6 (lpVP p2 0), .slot 7 (eqVP q31), .slot 8 (intVP .u64 (IntKind.wrap .u64 (8 * a_2))), .slot 9 (intVP .i64 x29), .slot 28 (boolVP (decide (x29 < (8 : Int)))), .res (lb p1 150 [intsCk .u32 8 a_0]), .res (lb p2 23 [bytesCk 32 (List.replicate 32 0)]), .res (acc q31 5 1 bC x30)] a w at h
        clear β
        show Code.wp Tryd.prog _ _ a w
        refine cond_L h 5 rfl (fun hb38 => ?_) (fun hb38 => ?_)
        · replace hF := tt_of hb38 hF
          replace h := h.sub [0, 1, 2, 3, 4, 6, 7, 8] (by rfl)
          change SatL c [.slot 3 (lpVP p1 0), .slot 6 (lpVP p2 0), .slot 7 (eqVP q31), .slot 8 (intVP .u64 (IntKind.wrap .u64 (8 * a_2))), .slot 9 (intVP .i64 x29), .res (lb p1 150 [intsCk .u32 8 a_0]), .res (lb p2 23 [bytesCk 32 (List.replicate 32 0)]), .res (acc q31 5 1 bC x30)] a w at h
          refine wp_skip ?_
          show Code.wp Tryd.prog _ _ a w
          refine wp_seq ?_
          refine wp_block ?_
          obtain ⟨hv39, hF⟩ := ite_some hF
          refine region_do (n := 65) [.slot 31 100000 100000 (fun _ _ => (eqVP q31)),
      .slot 32 100000 100000 (fun _ _ => (intVP .u64 (IntKind.wrap .u64 (8 * a_2)))),
      .slot 33 100000 100000 (fun _ _ => (intVP .i64 x29)),
      .slot 34 100000 100000 (fun _ _ => (intVP .i64 (IntKind.wrap .i64 (8 * x29)))),
      .slot 35 100000 100000 (fun _ _ => (intVP .i64 (IntKind.wrap .i64 (56 - (IntKind.wrap .i64 (8 * x29)))))),
      .slot 36 100000 100000 (fun _ _ => (intVP .u64 (IntKind.wrap .u64 (IntKind.wrap .i64 (56 - (IntKind.wrap .i64 (8 * x29))))))),
      .slot 37 100000 100000 (fun _ _ => (intVP .u64 (shr .u64 (IntKind.wrap .u64 (8 * a_2)) (IntKind.wrap .u64 (IntKind.wrap .i64 (56 - (IntKind.wrap .i64 (8 * x29)))))))),
      .slot 38 100000 100000 (fun _ _ => (intVP .u8 (IntKind.wrap .u8 (shr .u64 (IntKind.wrap .u64 (8 * a_2)) (IntKind.wrap .u64 (IntKind.wrap .i64 (56 - (IntKind.wrap .i64 (8 * x29))))))))),
      .slot 39 100000 100000 (fun _ _ => (slVP bC [u8of (IntKind.wrap .u8 (shr .u64 (IntKind.wrap .u64 (8 * a_2)) (IntKind.wrap .u64 (IntKind.wrap .i64 (56 - (IntKind.wrap .i64 (8 * x29)))))))])),
      .slot 40 9 100000 (fun v1_ _ => (eqVP v1_)),
      .res 9 100000 (fun v1_ _ => (acc (v1_) 5 1 bC (x30 ++ [u8of (IntKind.wrap .u8 (shr .u64 (IntKind.wrap .u64 (8 * a_2)) (IntKind.wrap .u64 (IntKind.wrap .i64 (56 - (IntKind.wrap .i64 (8 * x29)))))))]))),
      .slot 7 9 100000 (fun v1_ _ => (eqVP v1_))] [0, 1, 2, 3, 4, 5, 6, 7, 8, 9, 9, 10] [⟨[2], [], [8], [], some 31⟩, ⟨[3], [], [9], [0], some 32⟩, ⟨[4], [], [10], [0, 1], some 33⟩, ⟨[10], [], [11], [0, 1, 2], some 34⟩, ⟨[11], [], [12], [0, 1, 2, 3], some 35⟩, ⟨[12], [], [13], [0, 1, 2, 3, 4], some 36⟩, ⟨[9, 13], [], [14], [0, 1, 2, 3, 4, 5], some 37⟩, ⟨[14], [], [15], [0, 1, 2, 3, 4, 5, 6], some 38⟩, ⟨[15], [], [16], [0, 1, 2, 3, 4, 5, 6, 7], some 39⟩, ⟨[8, 16], [7], [17, 18], [0, 1, 2, 3, 4, 5, 6, 7, 8], some 40⟩, ⟨[17], [2], [19], [0, 1, 2, 3, 4, 5, 6, 7, 8, 9], some 7⟩] [0, 1, 19, 3, 4, 5, 6, 18] mixed hn hG h (by kernel_rfl) ?_ ?_
          · exact ⟨⟨rfl, fun β => (GOk.plain (op_move (opt 0 rfl)) rfl)⟩, ⟨rfl, fun β => (GOk.plain (op_move (opt 0 rfl)) rfl)⟩, ⟨rfl, fun β => (GOk.plain (op_move (opt 0 rfl)) rfl)⟩, ⟨rfl, fun β => (GOk.plain (op_bin bin_mul (opc (ic (by decide))) (opt 0 rfl)) rfl)⟩, ⟨rfl, fun β => (GOk.plain (op_bin bin_sub (opc (ic (by decide))) (opt 0 rfl)) rfl)⟩, ⟨rfl, fun β => (GOk.plain (op_convert_int Tryd.underlying3 Tryd.underlying128 (opt 0 rfl)) rfl)⟩, ⟨rfl, fun β => (GOk.plain (op_bin (bin_shru rfl) (opt 0 rfl) (opt 1 rfl)) rfl)⟩, ⟨rfl, fun β => (GOk.plain (op_convert_int Tryd.underlying114 Tryd.underlying5 (opt 0 rfl)) rfl)⟩, ⟨rfl, fun β => (GOk.plain (op_lit (xs := [.tmp 38]) (ys := [u8of (IntKind.wrap .u8 (shr .u64 (IntKind.wrap .u64 (8 * a_2)) (IntKind.wrap .u64 (IntKind.wrap .i64 (56 - (IntKind.wrap .i64 (8 * x29)))))))]) _ rfl Tryd.underlying129 Tryd.sizeOf5 Tryd.zeroValue5 rfl rfl (by decide) (by decide) ⟨⟨_, (opt 0 rfl), (cells_u8 _)⟩, trivial⟩ lens_bC) rfl)⟩, ⟨rfl, fun β => (GOk.plain (op_append (i := Tryd.t5) Tryd.underlying129 Tryd.type5 rfl lens_bC (by decide) rfl (opt 0 rfl) (opt 1 rfl) hv39) rfl)⟩, ⟨rfl, fun β => (GOk.drop _ (GOk.plain (op_assign (V := (eqVP (β 9))) (opt 0 rfl)) rfl))⟩, trivial⟩
          clear h
          intro β a w h
          change SatL c [.slot 3 (lpVP p1 0), .slot 6 (lpVP p2 0), .slot 7 (eqVP (β 9)), .slot 8 (intVP .u64 (IntKind.wrap .u64 (8 * a_2))), .slot 9 (intVP .i64 x29), .res (lb p1 150 [intsCk .u32 8 a_0]), .res (lb p2 23 [bytesCk 32 (List.replicate 32 0)]), .res (acc (β 9) 5 1 bC (x30 ++ [u8of (IntKind.wrap .u8 (shr .u64 (IntKind.wrap .u64 (8 * a_2)) (IntKind.wrap .u64 (IntKind.wrap .i64 (56 - (IntKind.wrap .i64 (8 * x29)))))))]))] a w at h
          generalize β 9 = p40 at h
          clear β
          show Code.wp Tryd.prog _ _ a w
          refine region_do (n := 65) [.slot 29 100000 100000 (fun _ _ => (intVP .i64 x29)),
      .slot 30 100000 100000 (fun _ _ => (intVP .i64 (IntKind.wrap .i64 (x29 + 1)))),
      .slot 9 100000 100000 (fun _ _ => (intVP .i64 (IntKind.wrap .i64 (x29 + 1))))] [0, 1, 2] [⟨[4], [], [8], [], some 29⟩, ⟨[8], [], [9], [0], some 30⟩, ⟨[9], [4], [10], [0, 1], some 9⟩] [0, 1, 2, 3, 10, 5, 6, 7] mixed hn hG h (by kernel_rfl) ?_ ?_
          · exact ⟨⟨rfl, fun β => (GOk.plain (op_move (opt 0 rfl)) rfl)⟩, ⟨rfl, fun β => (GOk.plain (op_bin bin_add (opt 0 rfl) (opc (ic (by decide)))) rfl)⟩, ⟨rfl, fun β => (GOk.drop _ (GOk.plain (op_assign (opt 0 rfl)) rfl))⟩, trivial⟩
          clear h
          intro β a w h
          change SatL c [.slot 3 (lpVP p1 0), .slot 6 (lpVP p2 0), .slot 7 (eqVP p40), .slot 8 (intVP .u64 (IntKind.wrap .u64 (8 * a_2))), .slot 9 (intVP .i64 (IntKind.wrap .i64 (x29 + 1))), .res (lb p1 150 [intsCk .u32 8 a_0]), .res (lb p2 23 [bytesCk 32 (List.replicate 32 0)]), .res (acc p40 5 1 bC (x30 ++ [u8of (IntKind.wrap .u8 (shr .u64 (IntKind.wrap .u64 (8 * a_2)) (IntKind.wrap .u64 (IntKind.wrap .i64 (56 - (IntKind.wrap .i64 (8 * x29)))))))]))] a w at h
          clear β
          obtain rfl := Option.some.inj hF
          exact ⟨rfl, p40, h.sub [0, 1, 2, 3, 4, 5, 6, 7] (by rfl)⟩
        · replace hF := ff_of hb38 hF
          replace h := h.sub [0, 1, 2, 3, 4, 6, 7, 8] (by rfl)
          change SatL c [.slot 3 (lpVP p1 0), .slot 6 (lpVP p2 0), .slot 7 (eqVP q31), .slot 8 (intVP .u64 (IntKind.wrap .u64 (8 * a_2))), .slot 9 (intVP .i64 x29), .res (lb p1 150 [intsCk .u32 8 a_0]), .res (lb p2 23 [bytesCk 32 (List.replicate 32 0)]), .res (acc q31 5 1 bC x30)] a w at h
          refine wp_exit ?_
          obtain rfl := Option.some.inj hF
          exact ⟨exit_ne _, rfl, q31, h.sub [0, 1, 2, 5, 6, 7] (by rfl)⟩
      · clear hl42
        intro e a w hq
        cases cr41 with
        | ret r43 =>
          obtain ⟨rfl, hq⟩ := hq
          obtain rfl := Option.some.inj hF
          exact ⟨.inl rfl, hq⟩
        | next s44 =>
          obtain ⟨y45, y46⟩ := s44
          obtain ⟨rfl, q31, h⟩ := hq
          change SatL c [.slot 3 (lpVP p1 0), .slot 6 (lpVP p2 0), .slot 7 (eqVP q31), .res (lb p1 150 [intsCk .u32 8 a_0]), .res (lb p2 23 [bytesCk 32 (List.replicate 32 0)]), .res (acc q31 5 1 bC y46)] a w at h
          refine inBlock_at ?_
          show Code.wp Tryd.prog _ _ a w
          refine wp_seq ?_
          obtain ⟨r47, hr47, hF⟩ := bind_some hF
          refine region_do (n := 65) [.slot 42 100000 100000 (fun _ _ => (aggVP [intsCk .u32 8 a_0])),
      .slot 43 100000 100000 (fun _ _ => (eqVP q31)),
      .slot 44 100000 100000 (fun _ _ => (tupVP [(aggVP [intsCk .u32 8 r47.1]), (slVP bC r47.2)])),
      .slot 41 100000 100000 (fun _ _ => (tupVP [(aggVP [intsCk .u32 8 r47.1]), (slVP bC r47.2)])),
      .slot 45 100000 100000 (fun _ _ => (aggVP [intsCk .u32 8 r47.1])),
      .slot 46 100000 100000 (fun _ _ => (slVP bC r47.2)),
      .res 100000 100000 (fun _ _ => (lb p1 150 [intsCk .u32 8 r47.1]))] [0, 1, 2, 3, 4, 5, 6] [⟨[0, 3], [], [6], [], some 42⟩, ⟨[2], [], [7], [0], some 43⟩, ⟨[6, 7, 5], [], [8], [0, 1], some 44⟩, ⟨[8], [], [9], [0, 1, 2], some 41⟩, ⟨[9], [], [10], [0, 1, 2, 3], some 45⟩, ⟨[9], [], [11], [0, 1, 2, 3, 4], some 46⟩, ⟨[0, 10], [3], [12], [0, 1, 2, 3, 4, 5], none⟩] [0, 1, 12, 4] mixed hn hG h (by kernel_rfl) ?_ ?_
          · exact ⟨⟨rfl, fun β => (GOk.plain (op_load_lb [] [intsCk .u32 8 a_0] [] 1 Tryd.isAgg150 Tryd.sizeOf150 (opt 0 rfl) rfl rfl rfl) rfl)⟩, ⟨rfl, fun β => (GOk.plain (op_move (opt 0 rfl)) rfl)⟩, ⟨rfl, fun β => (GOk.plain (op_call Tryd.call90 (ref01_After_ok hr47) ⟨(opt 0 rfl), (opacc 1 2 rfl rfl), trivial⟩) rfl)⟩, ⟨rfl, fun β => (GOk.plain (op_move (opt 0 rfl)) rfl)⟩, ⟨rfl, fun β => (GOk.plain (op_extract (opt 0 rfl) rfl) rfl)⟩, ⟨rfl, fun β => (GOk.plain (op_extract (opt 0 rfl) rfl) rfl)⟩, ⟨rfl, fun β => (GOk.plain (op_store_lb [] [intsCk .u32 8 a_0] [] [intsCk .u32 8 r47.1] Tryd.sizeOf150 (opt 0 rfl) (opt 1 rfl) (cells_agg _) rfl rfl rfl) rfl)⟩, trivial⟩
          clear h
          intro β a w h
          change SatL c [.slot 3 (lpVP p1 0), .slot 6 (lpVP p2 0), .res (lb p1 150 [intsCk .u32 8 r47.1]), .res (lb p2 23 [bytesCk 32 (List.replicate 32 0)])] a w at h
          clear β
          show Code.wp Tryd.prog _ _ a w
          refine wp_seq ?_
          refine region_do (n := 65) [.slot 10 0 100000 (fun v1_ _ => (lpVP v1_ 0)),
      .res 0 100000 (fun v1_ _ => (lb (v1_) 23 [bytesCk 32 (List.replicate 32 0)]))] [0, 0] [⟨[], [], [4, 5], [], some 10⟩] [0, 1, 4, 2, 3, 5] mixed hn hG h (by kernel_rfl) ?_ ?_
          · exact ⟨⟨rfl, fun β => (GOk.plain (op_alloc Tryd.zeroValue23 z23) rfl)⟩, trivial⟩
          clear h
          intro β a w h
          change SatL c [.slot 3 (lpVP p1 0), .slot 6 (lpVP p2 0), .slot 10 (lpVP (β 0) 0), .res (lb p1 150 [intsCk .u32 8 r47.1]), .res (lb p2 23 [bytesCk 32 (List.replicate 32 0)]), .res (lb (β 0) 23 [bytesCk 32 (List.replicate 32 0)])] a w at h
          generalize β 0 = p48 at h
          clear β
          show Code.wp Tryd.prog _ _ a w
          refine wp_seq ?_
          refine wp_seq ?_
          refine region_do (n := 65) [.slot 11 100000 100000 (fun _ _ => (intVP .i64 0))] [0] [⟨[], [], [6], [], some 11⟩] [0, 1, 2, 6, 3, 4, 5] mixed hn hG h (by kernel_rfl) ?_ ?_
          · exact ⟨⟨rfl, fun β => (GOk.plain (op_assign (opc (ic (by decide)))) rfl)⟩, trivial⟩
          clear h
          intro β a w h
          change SatL c [.slot 3 (lpVP p1 0), .slot 6 (lpVP p2 0), .slot 10 (lpVP p48 0), .slot 11 (intVP .i64 0), .res (lb p1 150 [intsCk .u32 8 r47.1]), .res (lb p2 23 [bytesCk 32 (List.replicate 32 0)]), .res (lb p48 23 [bytesCk 32 (List.replicate 32 0)])] a w at h
          clear β
          show Code.wp Tryd.prog _ _ a w
          refine wp_block ?_
          obtain ⟨cr61, hl62, hF⟩ := bind_some hF
          refine wp_mono (wp_loopN (R := (List UInt8)) (S := Int × (List UInt8)) (fun s a w => SatL c [.slot 3 (lpVP p1 0), .slot 6 (lpVP p2 0), .slot 10 (lpVP p48 0), .slot 11 (intVP .i64 s.1), .res (lb p1 150 [intsCk .u32 8 r47.1]), .res (lb p2 23 [bytesCk 32 (List.replicate 32 0)]), .res (lb p48 23 [bytesCk 32 s.2])] a w) (fun res e a w => match res with | .next s => e = .exit 4 ∧ SatL c [.slot 6 (lpVP p2 0), .slot 10 (lpVP p48 0), .res (lb p2 23 [bytesCk 32 (List.replicate 32 0)]), .res (lb p48 23 [bytesCk 32 s.2])] a w | .ret r => e = .ret ∧ RetOk Tryd.prog Tryd.f92 c (aggVP [bytesCk 32 r]) (fun _ => []) a w) ?_ _ (0, (List.replicate 32 0)) _ _ _ (h.sub [0, 1, 2, 3, 4, 5, 6] (by rfl)) hl62) ?_
          · clear hl62 hF h
            intro s a w o h hF
            obtain ⟨x51, x52⟩ := s
            change ref01_End.b3 r47 x51 x52 = some o at hF
            unfold ref01_End.b3 at hF
            change SatL c [.slot 3 (lpVP p1 0), .slot 6 (lpVP p2 0), .slot 10 (lpVP p48 0), .slot 11 (intVP .i64 x51), .res (lb p1 150 [intsCk .u32 8 r47.1]), .res (lb p2 23 [bytesCk 32 (List.replicate 32 0)]), .res (lb p48 23 [bytesCk 32 x52])] a w at h
            refine wp_seq ?_
            refine wp_seq ?_
            refine region_do (n := 65) [.slot 47 100000 100000 (fun _ _ => (intVP .i64 x51)),
      .slot 48 100000 100000 (fun _ _ => (boolVP (decide (x51 < (32 : Int)))))] [0, 1] [⟨[3], [], [7], [], some 47⟩, ⟨[7], [], [8], [0], some 48⟩] [0, 1, 2, 3, 8, 4, 5, 6] mixed hn hG h (by kernel_rfl) ?_ ?_
            · exact ⟨⟨rfl, fun β => (GOk.plain (op_move (opt 0 rfl)) rfl)⟩, ⟨rfl, fun β => (GOk.plain (op_bin bin_lss (opt 0 rfl) (opc (ic (by decide)))) rfl)⟩, trivial⟩
            clear h
            intro β a w h
            change SatL c [.slot 3 (lpVP p1 0), .slot 6 (lpVP p2 0), .slot 10 (lpVP p48 0), .slot 11 (intVP .i64 x51), .slot 48 (boolVP (decide (x51 < (32 : Int)))), .res (lb p1 150 [intsCk .u32 8 r47.1]), .res (lb p2 23 [bytesCk 32 (List.replicate 32 0)]), .res (lb p48 23 [bytesCk 32 x52])] a w at h
            clear β
            show Code.wp Tryd.prog _ _ a w
            refine cond_L h 4 rfl (fun hb58 => ?_) (fun hb58 => ?_)
            · replace hF := tt_of hb58 hF
              replace h := h.sub [0, 1, 2, 3, 5, 6, 7] (by rfl)
              change SatL c [.slot 3 (lpVP p1 0), .slot 6 (lpVP p2 0), .slot 10 (lpVP p48 0), .slot 11 (intVP .i64 x51), .res (lb p1 150 [intsCk .u32 8 r47.1]), .res (lb p2 23 [bytesCk 32 (List.replicate 32 0)]), .res (lb p48 23 [bytesCk 32 x52])] a w at h
              refine wp_skip ?_
              show Code.wp Tryd.prog _ _ a w
              refine wp_seq ?_
              refine wp_block ?_
              obtain ⟨hv59, hF⟩ := ite_some hF
              obtain ⟨hv60, hF⟩ := ite_some hF
              refine region_do (n := 65) [.slot 51 100000 100000 (fun _ _ => (intVP .i64 x51)),
      .slot 52 100000 100000 (fun _ _ => (intVP .i64 x51)),
      .slot 53 100000 100000 (fun _ _ => (intVP .i64 (IntKind.wrap .i64 (x51.tdiv 4)))),
      .slot 54 100000 100000 (fun _ _ => (lpVP p1 (0 + (IntKind.wrap .i64 (x51.tdiv 4)).toNat * 1))),
      .slot 55 100000 100000 (fun _ _ => (intVP .u32 (r47.1.getD (IntKind.wrap .i64 (x51.tdiv 4)).toNat 0))),
      .slot 56 100000 100000 (fun _ _ => (intVP .i64 x51)),
      .slot 57 100000 100000 (fun _ _ => (intVP .i64 (x51.tmod 4))),
      .slot 58 100000 100000 (fun _ _ => (intVP .i64 (IntKind.wrap .i64 (8 * (x51.tmod 4))))),
      .slot 59 100000 100000 (fun _ _ => (intVP .i64 (IntKind.wrap .i64 (24 - (IntKind.wrap .i64 (8 * (x51.tmod 4))))))),
      .slot 60 100000 100000 (fun _ _ => (intVP .u64 (IntKind.wrap .u64 (IntKind.wrap .i64 (24 - (IntKind.wrap .i64 (8 * (x51.tmod 4)))))))),
      .slot 61 100000 100000 (fun _ _ => (intVP .u32 (shr .u32 (r47.1.getD (IntKind.wrap .i64 (x51.tdiv 4)).toNat 0) (IntKind.wrap .u64 (IntKind.wrap .i64 (24 - (IntKind.wrap .i64 (8 * (x51.tmod 4))))))))),
      .slot 62 100000 100000 (fun _ _ => (intVP .u8 (IntKind.wrap .u8 (shr .u32 (r47.1.getD (IntKind.wrap .i64 (x51.tdiv 4)).toNat 0) (IntKind.wrap .u64 (IntKind.wrap .i64 (24 - (IntKind.wrap .i64 (8 * (x51.tmod 4)))))))))),
      .slot 63 100000 100000 (fun _ _ => (lpVP p48 (0 + x51.toNat * 1))),
      .res 100000 100000 (fun _ _ => (lb p48 23 [bytesCk 32 (x52.set x51.toNat (u8of (IntKind.wrap .u8 (shr .u32 (r47.1.getD (IntKind.wrap .i64 (x51.tdiv 4)).toNat 0) (IntKind.wrap .u64 (IntKind.wrap .i64 (24 - (IntKind.wrap .i64 (8 * (x51.tmod 4))))))))))]))] [0, 1, 2, 3, 4, 5, 6, 7, 8, 9, 10, 11, 12, 13] [⟨[3], [], [7], [], some 51⟩, ⟨[3], [], [8], [0], some 52⟩, ⟨[8], [], [9], [0, 1], some 53⟩, ⟨[0, 9], [], [10], [0, 1, 2], some 54⟩, ⟨[10, 4], [], [11], [0, 1, 2, 3], some 55⟩, ⟨[3], [], [12], [0, 1, 2, 3, 4], some 56⟩, ⟨[12], [], [13], [0, 1, 2, 3, 4, 5], some 57⟩, ⟨[13], [], [14], [0, 1, 2, 3, 4, 5, 6], some 58⟩, ⟨[14], [], [15], [0, 1, 2, 3, 4, 5, 6, 7], some 59⟩, ⟨[15], [], [16], [0, 1, 2, 3, 4, 5, 6, 7, 8], some 60⟩, ⟨[11, 16], [], [17], [0, 1, 2, 3, 4, 5, 6, 7, 8, 9], some 61⟩, ⟨[17], [], [18], [0, 1, 2, 3, 4, 5, 6, 7, 8, 9, 10], some 62⟩, ⟨[2, 7], [], [19], [0, 1, 2, 3, 4, 5, 6, 7, 8, 9, 10, 11], some 63⟩, ⟨[19, 18], [6], [20], [0, 1, 2, 3, 4, 5, 6, 7, 8, 9, 10, 11, 12], none⟩] [0, 1, 2, 3, 4, 5, 20] mixed hn hG h (by kernel_rfl) ?_ ?_
              · exact ⟨⟨rfl, fun β => (GOk.plain (op_move (opt 0 rfl)) rfl)⟩, ⟨rfl, fun β => (GOk.plain (op_move (opt 0 rfl)) rfl)⟩, ⟨rfl, fun β => (GOk.plain (op_bin (bin_quo (by decide)) (opt 0 rfl) (opc (ic (by decide)))) rfl)⟩, ⟨rfl, fun β => (GOk.plain (op_indexAddr_lb Tryd.underlying150 Tryd.sizeOf51 (opt 0 rfl) (opt 1 rfl) hv59) rfl)⟩, ⟨rfl, fun β => (GOk.plain (op_load_lbI (i := IntKind.wrap .i64 (x51.tdiv 4)) [] [] 1 Tryd.isAgg51 (opt 0 rfl) rfl rfl hv59) rfl)⟩, ⟨rfl, fun β => (GOk.plain (op_move (opt 0 rfl)) rfl)⟩, ⟨rfl, fun β => (GOk.plain (op_bin (bin_rem (by decide)) (opt 0 rfl) (opc (ic (by decide)))) rfl)⟩, ⟨rfl, fun β => (GOk.plain (op_bin bin_mul (opc (ic (by decide))) (opt 0 rfl)) rfl)⟩, ⟨rfl, fun β => (GOk.plain (op_bin bin_sub (opc (ic (by decide))) (opt 0 rfl)) rfl)⟩, ⟨rfl, fun β => (GOk.plain (op_convert_int Tryd.underlying3 Tryd.underlying128 (opt 0 rfl)) rfl)⟩, ⟨rfl, fun β => (GOk.plain (op_bin (bin_shru rfl) (opt 0 rfl) (opt 1 rfl)) rfl)⟩, ⟨rfl, fun β => (GOk.plain (op_convert_int Tryd.underlying51 Tryd.underlying5 (opt 0 rfl)) rfl)⟩, ⟨rfl, fun β => (GOk.plain (op_indexAddr_lb Tryd.underlying23 Tryd.sizeOf5 (opt 0 rfl) (opt 1 rfl) hv60) rfl)⟩, ⟨rfl, fun β => (GOk.plain (op_store_lbB (i := x51) [] [] Tryd.sizeOf5 (opt 0 rfl) (opt 1 rfl) rfl hv60) rfl)⟩, trivial⟩
              clear h
              intro β a w h
              change SatL c [.slot 3 (lpVP p1 0), .slot 6 (lpVP p2 0), .slot 10 (lpVP p48 0), .slot 11 (intVP .i64 x51), .res (lb p1 150 [intsCk .u32 8 r47.1]), .res (lb p2 23 [bytesCk 32 (List.replicate 32 0)]), .res (lb p48 23 [bytesCk 32 (x52.set x51.toNat (u8of (IntKind.wrap .u8 (shr .u32 (r47.1.getD (IntKind.wrap .i64 (x51.tdiv 4)).toNat 0) (IntKind.wrap .u64 (IntKind.wrap .i64 (24 - (IntKind.wrap .i64 (8 * (x51.tmod 4))))))))))])] a w at h
              clear β
              show Code.wp Tryd.prog _ _ a w
              refine region_do (n := 65) [.slot 49 100000 100000 (fun _ _ => (intVP .i64 x51)),
      .slot 50 100000 100000 (fun _ _ => (intVP .i64 (IntKind.wrap .i64 (x51 + 1)))),
      .slot 11 100000 100000 (fun _ _ => (intVP .i64 (IntKind.wrap .i64 (x51 + 1))))] [0, 1, 2] [⟨[3], [], [7], [], some 49⟩, ⟨[7], [], [8], [0], some 50⟩, ⟨[8], [3], [9], [0, 1], some 11⟩] [0, 1, 2, 9, 4, 5, 6] mixed hn hG h (by kernel_rfl) ?_ ?_
              · exact ⟨⟨rfl, fun β => (GOk.plain (op_move (opt 0 rfl)) rfl)⟩, ⟨rfl, fun β => (GOk.plain (op_bin bin_add (opt 0 rfl) (opc (ic (by decide)))) rfl)⟩, ⟨rfl, fun β => (GOk.drop _ (GOk.plain (op_assign (opt 0 rfl)) rfl))⟩, trivial⟩
              clear h
              intro β a w h
              change SatL c [.slot 3 (lpVP p1 0), .slot 6 (lpVP p2 0), .slot 10 (lpVP p48 0), .slot 11 (intVP .i64 (IntKind.wrap .i64 (x51 + 1))), .res (lb p1 150 [intsCk .u32 8 r47.1]), .res (lb p2 23 [bytesCk 32 (List.replicate 32 0)]), .res (lb p48 23 [bytesCk 32 (x52.set x51.toNat (u8of (IntKind.wrap .u8 (shr .u32 (r47.1.getD (IntKind.wrap .i64 (x51.tdiv 4)).toNat 0) (IntKind.wrap .u64 (IntKind.wrap .i64 (24 - (IntKind.wrap .i64 (8 * (x51.tmod 4))))))))))])] a w at h
              clear β
              obtain rfl := Option.some.inj hF
              exact ⟨rfl, h.sub [0, 1, 2, 3, 4, 5, 6] (by rfl)⟩
            · replace hF := ff_of hb58 hF
              replace h := h.sub [0, 1, 2, 3, 5, 6, 7] (by rfl)
              change SatL c [.slot 3 (lpVP p1 0), .slot 6 (lpVP p2 0), .slot 10 (lpVP p48 0), .slot 11 (intVP .i64 x51), .res (lb p1 150 [intsCk .u32 8 r47.1]), .res (lb p2 23 [bytesCk 32 (List.replicate 32 0)]), .res (lb p48 23 [bytesCk 32 x52])] a w at h
              refine wp_exit ?_
              obtain rfl := Option.some.inj hF
              exact ⟨exit_ne _, rfl, h.sub [1, 2, 5, 6] (by rfl)⟩
          · clear hl62
            intro e a w hq
            cases cr61 with
            | ret r63 =>
              obtain ⟨rfl, hq⟩ := hq
              obtain rfl := Option.some.inj hF
              exact ⟨.inl rfl, hq⟩
            | next s64 =>
              obtain ⟨y65, y66⟩ := s64
              obtain ⟨rfl, h⟩ := hq
              change SatL c [.slot 6 (lpVP p2 0), .slot 10 (lpVP p48 0), .res (lb p2 23 [bytesCk 32 (List.replicate 32 0)]), .res (lb p48 23 [bytesCk 32 y66])] a w at h
              refine inBlock_at ?_
              show Code.wp Tryd.prog _ _ a w
              refine wp_seq ?_
              refine region_do (n := 65) [.slot 64 100000 100000 (fun _ _ => (aggVP [bytesCk 32 y66])),
      .res 100000 100000 (fun _ _ => (lb p2 23 [bytesCk 32 y66]))] [0, 1] [⟨[1, 3], [], [4], [], some 64⟩, ⟨[0, 4], [2], [5], [0], none⟩] [0, 5] mixed hn hG h (by kernel_rfl) ?_ ?_
              · exact ⟨⟨rfl, fun β => (GOk.plain (op_load_lb [] [bytesCk 32 y66] [] 1 Tryd.isAgg23 Tryd.sizeOf23 (opt 0 rfl) rfl rfl rfl) rfl)⟩, ⟨rfl, fun β => (GOk.plain (op_store_lb [] [bytesCk 32 (List.replicate 32 0)] [] [bytesCk 32 y66] Tryd.sizeOf23 (opt 0 rfl) (opt 1 rfl) (cells_agg _) rfl rfl rfl) rfl)⟩, trivial⟩
              clear h
              intro β a w h
              change SatL c [.slot 6 (lpVP p2 0), .res (lb p2 23 [bytesCk 32 y66])] a w at h
              clear β
              show Code.wp Tryd.prog _ _ a w
              refine wp_ret ?_
              obtain rfl := Option.some.inj hF
              exact ⟨.inl rfl, ret1 h Tryd.results92 (r_cell 0 1 rfl rfl Tryd.isAgg23 Tryd.sizeOf23 rfl) [] [] rfl rfl rfl⟩

def ref01_Sum (a_0 : List UInt8) : Option (List UInt8) := ((ref01_First).bind fun r2 => ((ref01_After r2 a_0).bind fun r3 => ((ref01_End r3.1 r3.2 (IntKind.wrap .u64 (a_0.length : Int))).bind fun r5 => some r5)))
theorem ref01_Sum_ok {a_0 : List UInt8} {r : (List UInt8)} (hF : ref01_Sum a_0 = some r) : CallOk Tryd.prog KG 78 [(strVP a_0)] [] (fun _ => []) (aggVP [bytesCk 32 r]) := by
  refine CallOk.intro 18 Tryd.func78 rfl Tryd.ntmps78 (Nat.le_of_ble_eq_true rfl) ?_
  intro c a w hG hn h
  unfold ref01_Sum at hF
  change SatL c [.slot 0 (strVP a_0)] a w at h
  refine wp_seq ?_
  refine region_do (n := 18) [.slot 2 0 100000 (fun v1_ _ => (lpVP v1_ 0)),
      .res 0 100000 (fun v1_ _ => (lb (v1_) 23 [bytesCk 32 (List.replicate 32 0)]))] [0, 0] [⟨[], [], [1, 2], [], some 2⟩] [0, 1, 2] mixed hn hG h (by kernel_rfl) ?_ ?_
  · exact ⟨⟨rfl, fun β => (GOk.plain (op_alloc Tryd.zeroValue23 z23) rfl)⟩, trivial⟩
  clear h
  intro β a w h
  change SatL c [.slot 0 (strVP a_0), .slot 2 (lpVP (β 0) 0), .res (lb (β 0) 23 [bytesCk 32 (List.replicate 32 0)])] a w at h
  generalize β 0 = p1 at h
  clear β
  show Code.wp Tryd.prog _ _ a w
  refine wp_seq ?_
  obtain ⟨r2, hr2, hF⟩ := bind_some hF
  obtain ⟨r3, hr3, hF⟩ := bind_some hF
  refine region_do (n := 18) [.slot 6 100000 100000 (fun _ _ => (aggVP [intsCk .u32 8 r2])),
      .slot 7 100000 100000 (fun _ _ => (strVP a_0)),
      .slot 8 100000 100000 (fun _ _ => (slVP bC a_0)),
      .slot 9 100000 100000 (fun _ _ => (tupVP [(aggVP [intsCk .u32 8 r3.1]), (slVP bC r3.2)])),
      .slot 5 100000 100000 (fun _ _ => (tupVP [(aggVP [intsCk .u32 8 r3.1]), (slVP bC r3.2)])),
      .slot 10 100000 100000 (fun _ _ => (aggVP [intsCk .u32 8 r3.1])),
      .slot 11 100000 100000 (fun _ _ => (slVP bC r3.2)),
      .slot 3 7 100000 (fun v1_ _ => (lpVP v1_ 0)),
      .res 7 100000 (fun v1_ _ => (lb (v1_) 150 [intsCk .u32 8 (List.replicate 8 0)])),
      .res 7 100000 (fun v1_ _ => (lb (v1_) 150 [intsCk .u32 8 r3.1])),
      .slot 4 100000 100000 (fun _ _ => (slVP bC r3.2))] [0, 1, 2, 3, 4, 5, 6, 7, 7, 8, 9] [⟨[], [], [3], [], some 6⟩, ⟨[0], [], [4], [0], some 7⟩, ⟨[4], [], [5], [0, 1], some 8⟩, ⟨[3, 5], [], [6], [0, 1, 2], some 9⟩, ⟨[6], [], [7], [0, 1, 2, 3], some 5⟩, ⟨[7], [], [8], [0, 1, 2, 3, 4], some 10⟩, ⟨[7], [], [9], [0, 1, 2, 3, 4, 5], some 11⟩, ⟨[], [], [10, 11], [0, 1, 2, 3, 4, 5, 6], some 3⟩, ⟨[10, 8], [11], [12], [0, 1, 2, 3, 4, 5, 6, 7], none⟩, ⟨[9], [], [13], [0, 1, 2, 3, 4, 5, 6, 7, 8], some 4⟩] [0, 1, 10, 13, 2, 12] mixed hn hG h (by kernel_rfl) ?_ ?_
  · exact ⟨⟨rfl, fun β => (GOk.plain (op_call Tryd.call91 (ref01_First_ok hr2) trivial) rfl)⟩, ⟨rfl, fun β => (GOk.plain (op_move (opt 0 rfl)) rfl)⟩, ⟨rfl, fun β => (GOk.plain (op_conv_str_sl Tryd.underlying9 Tryd.underlying129 Tryd.underlying5 (opt 0 rfl)) rfl)⟩, ⟨rfl, fun β => (GOk.plain (op_call Tryd.call90 (ref01_After_ok hr3) ⟨(opt 0 rfl), (opt 1 rfl), trivial⟩) rfl)⟩, ⟨rfl, fun β => (GOk.plain (op_move (opt 0 rfl)) rfl)⟩, ⟨rfl, fun β => (GOk.plain (op_extract (opt 0 rfl) rfl) rfl)⟩, ⟨rfl, fun β => (GOk.plain (op_extract (opt 0 rfl) rfl) rfl)⟩, ⟨rfl, fun β => (GOk.plain (op_alloc Tryd.zeroValue150 z150) rfl)⟩, ⟨rfl, fun β => (GOk.plain (op_store_lb [] [intsCk .u32 8 (List.replicate 8 0)] [] [intsCk .u32 8 r3.1] Tryd.sizeOf150 (opt 0 rfl) (opt 1 rfl) (cells_agg _) rfl rfl rfl) rfl)⟩, ⟨rfl, fun β => (GOk.plain (op_assign (opt 0 rfl)) rfl)⟩, trivial⟩
  clear h
  intro β a w h
  change SatL c [.slot 0 (strVP a_0), .slot 2 (lpVP p1 0), .slot 3 (lpVP (β 7) 0), .slot 4 (slVP bC r3.2), .res (lb p1 23 [bytesCk 32 (List.replicate 32 0)]), .res (lb (β 7) 150 [intsCk .u32 8 r3.1])] a w at h
  generalize β 7 = p4 at h
  clear β
  show Code.wp Tryd.prog _ _ a w
  refine wp_seq ?_
  obtain ⟨r5, hr5, hF⟩ := bind_some hF
  refine region_do (n := 18) [.slot 12 100000 100000 (fun _ _ => (aggVP [intsCk .u32 8 r3.1])),
      .slot 13 100000 100000 (fun _ _ => (slVP bC r3.2)),
      .slot 14 100000 100000 (fun _ _ => (strVP a_0)),
      .slot 15 100000 100000 (fun _ _ => (intVP .i64 (a_0.length : Int))),
      .slot 16 100000 100000 (fun _ _ => (intVP .u64 (IntKind.wrap .u64 (a_0.length : Int)))),
      .slot 17 100000 100000 (fun _ _ => (aggVP [bytesCk 32 r5])),
      .res 100000 100000 (fun _ _ => (lb p1 23 [bytesCk 32 r5]))] [0, 1, 2, 3, 4, 5, 6] [⟨[2, 5], [], [6], [], some 12⟩, ⟨[3], [], [7], [0], some 13⟩, ⟨[0], [], [8], [0, 1], some 14⟩, ⟨[8], [], [9], [0, 1, 2], some 15⟩, ⟨[9], [], [10], [0, 1, 2, 3], some 16⟩, ⟨[6, 7, 10], [], [11], [0, 1, 2, 3, 4], some 17⟩, ⟨[1, 11], [4], [12], [0, 1, 2, 3, 4, 5], none⟩] [1, 12] mixed hn hG h (by kernel_rfl) ?_ ?_
  · exact ⟨⟨rfl, fun β => (GOk.plain (op_load_lb [] [intsCk .u32 8 r3.1] [] 1 Tryd.isAgg150 Tryd.sizeOf150 (opt 0 rfl) rfl rfl rfl) rfl)⟩, ⟨rfl, fun β => (GOk.plain (op_move (opt 0 rfl)) rfl)⟩, ⟨rfl, fun β => (GOk.plain (op_move (opt 0 rfl)) rfl)⟩, ⟨rfl, fun β => (GOk.plain (op_len_str Tryd.underlying9 (opt 0 rfl)) rfl)⟩, ⟨rfl, fun β => (GOk.plain (op_convert_int Tryd.underlying3 Tryd.underlying114 (opt 0 rfl)) rfl)⟩, ⟨rfl, fun β => (GOk.plain (op_call Tryd.call92 (ref01_End_ok hr5) ⟨(opt 0 rfl), (opt 1 rfl), (opt 2 rfl), trivial⟩) rfl)⟩, ⟨rfl, fun β => (GOk.plain (op_store_lb [] [bytesCk 32 (List.replicate 32 0)] [] [bytesCk 32 r5] Tryd.sizeOf23 (opt 0 rfl) (opt 1 rfl) (cells_agg _) rfl rfl rfl) rfl)⟩, trivial⟩
  clear h
  intro β a w h
  change SatL c [.slot 2 (lpVP p1 0), .res (lb p1 23 [bytesCk 32 r5])] a w at h
  clear β
  show Code.wp Tryd.prog _ _ a w
  refine wp_ret ?_
  obtain rfl := Option.some.inj hF
  exact ⟨.inl rfl, ret1 h Tryd.results78 (r_cell 0 1 rfl rfl Tryd.isAgg23 Tryd.sizeOf23 rfl) [] [] rfl rfl rfl⟩

def ref04_Log_Note.n (a_1 : List UInt8) (a_2 : List UInt8) : Option (Option O_RLog) := some none
def ref04_Log_Note.b1 (s_0 : O_RLog) (a_1 : List UInt8) (a_2 : List UInt8) (x8 : Int) : Option (Flow (Option O_RLog) Int) := (if (decide (x8 < (((lkp a_1 s_0.f_Digests).getD []).length : Int))) = true then (if (0 : Int) ≤ x8 ∧ x8 < ((lkp a_1 s_0.f_Digests).getD []).length then (if (decide ((((lkp a_1 s_0.f_Digests).getD []).getD x8.toNat default) = a_2)) = true then some (.ret (some s_0)) else some (.cont (IntKind.wrap .i64 (x8 + 1)))) else none) else some (.brk x8))
def ref04_Log_Note.s (s_0 : O_RLog) (a_1 : List UInt8) (a_2 : List UInt8) : Option (Option O_RLog) := ((loopN (fun s : Int => ref04_Log_Note.b1 s_0 a_1 a_2 s) (((((lkp a_1 s_0.f_Digests).getD []).length : Int) - 0 : Int).toNat + 2) 0).bind fun cr => match cr with | .ret r => some r | .next y20 => (if ((lkp a_1 s_0.f_Digests).getD ([] : List (List UInt8))).length + [a_2].length ≤ mxl ∧ (((lkp a_1 s_0.f_Digests).getD ([] : List (List UInt8))).length + [a_2].length) * 16 ≤ 140737488355328 then (if s_0.f_Inputs.length + [a_2].length ≤ mxl ∧ (s_0.f_Inputs.length + [a_2].length) * 16 ≤ 140737488355328 then some (some ⟨s_0.f_Inputs ++ [a_2], upd a_1 (((lkp a_1 s_0.f_Digests).getD ([] : List (List UInt8))) ++ [a_2]) (ens a_1 ([] : List (List UInt8)) s_0.f_Digests)⟩) else none) else none))
def ref04_Log_Note (L_0 : Option O_RLog) (a_1 : List UInt8) (a_2 : List UInt8) : Option (Option O_RLog) := match L_0 with | none => ref04_Log_Note.n a_1 a_2 | some s_0 => ref04_Log_Note.s s_0 a_1 a_2
theorem ref04_Log_Note_ok {p_0 : Value} {L_0 : Option O_RLog} {a_1 : List UInt8} {a_2 : List UInt8} {r : (Option O_RLog)} (hF : ref04_Log_Note L_0 a_1 a_2 = some r) : CallOk Tryd.prog KG 79 [(eqVP p_0), (aggVP [bytesCk 32 a_1]), (strVP a_2)] [(RLog_e p_0 L_0)] (fun _ => [RLog_e p_0 r]) (tupVP []) := by
  refine CallOk.intro 46 Tryd.func79 rfl Tryd.ntmps79 (Nat.le_of_ble_eq_true rfl) ?_
  intro c a w hG hn h
  unfold ref04_Log_Note at hF
  change SatL c [.slot 0 (eqVP p_0), .slot 1 (aggVP [bytesCk 32 a_1]), .slot 2 (strVP a_2), .res (RLog_e p_0 L_0)] a w at h
  obtain ⟨h_0_0, h⟩ := h.ex 3 rfl
  obtain ⟨h_0_1, h⟩ := h.ex 3 rfl
  change SatL c [.slot 0 (eqVP p_0), .slot 1 (aggVP [bytesCk 32 a_1]), .slot 2 (strVP a_2), .res (RLog_o p_0 h_0_0 h_0_1 L_0)] a w at h
  cases L_0 with
  | none =>
    change ref04_Log_Note.n a_1 a_2 = some r at hF
    unfold ref04_Log_Note.n at hF
    obtain rfl := h.isp 3 rfl (fun _ _ _ q => q.2)
    replace h := h.slotc 0 rfl (V' := ptrVP (.pointer none) false) (fun _ _ h => ⟨h, rfl⟩)
    change SatL c [.slot 0 (ptrVP (.pointer none) false), .slot 1 (aggVP [bytesCk 32 a_1]), .slot 2 (strVP a_2), .res (RLog_o (.pointer none) h_0_0 h_0_1 none)] a w at h
    refine wp_seq ?_
    refine region_do (n := 46) [.slot 4 0 100000 (fun v1_ _ => (lpVP v1_ 0)),
      .res 0 100000 (fun v1_ _ => (lb (v1_) 23 [bytesCk 32 a_1]))] [0, 0] [⟨[1], [], [4, 5], [], some 4⟩] [0, 2, 4, 3, 5] mixed hn hG h (by kernel_rfl) ?_ ?_
    · exact ⟨⟨rfl, fun β => (GOk.plain (op_box (opt 0 rfl) (cells_agg _)) rfl)⟩, trivial⟩
    clear h
    intro β a w h
    change SatL c [.slot 0 (ptrVP (.pointer none) false), .slot 2 (strVP a_2), .slot 4 (lpVP (β 0) 0), .res (RLog_o (.pointer none) h_0_0 h_0_1 none), .res (lb (β 0) 23 [bytesCk 32 a_1])] a w at h
    generalize β 0 = p1 at h
    clear β
    show Code.wp Tryd.prog _ _ a w
    refine wp_seq ?_
    refine wp_seq ?_
    refine region_do (n := 46) [.slot 8 100000 100000 (fun _ _ => (ptrVP (.pointer none) false)),
      .slot 9 100000 100000 (fun _ _ => (boolVP true))] [0, 1] [⟨[0], [], [5], [], some 8⟩, ⟨[5], [], [6], [0], some 9⟩] [0, 1, 2, 6, 3, 4] mixed hn hG h (by kernel_rfl) ?_ ?_
    · exact ⟨⟨rfl, fun β => (GOk.plain (op_move (opt 0 rfl)) rfl)⟩, ⟨rfl, fun β => (GOk.plain (op_bin (bin_pnil Tryd.underlying42) (opt 0 rfl) (opc (ec _))) rfl)⟩, trivial⟩
    clear h
    intro β a w h
    change SatL c [.slot 0 (ptrVP (.pointer none) false), .slot 2 (strVP a_2), .slot 4 (lpVP p1 0), .slot 9 (boolVP true), .res (RLog_o (.pointer none) h_0_0 h_0_1 none), .res (lb p1 23 [bytesCk 32 a_1])] a w at h
    clear β
    show Code.wp Tryd.prog _ _ a w
    refine cond_L h 3 rfl (fun hb2 => ?_) (fun hb2 => ?_)
    · skip
      replace h := h.sub [4] (by rfl)
      change SatL c [.res (RLog_o (.pointer none) h_0_0 h_0_1 none)] a w at h
      refine wp_ret ?_
      replace h := h.conv 0 rfl RLog_packo
      change SatL c [.res (RLog_e (.pointer none) none)] a w at h
      obtain rfl := Option.some.inj hF
      exact ⟨.inl rfl, retn h (rs := []) (Vs := []) Tryd.results79 (by decide) trivial [0] [(RLog_e (.pointer none) none)] rfl rfl rfl⟩
    · cases hb2
  | some s_0 =>
    change ref04_Log_Note.s s_0 a_1 a_2 = some r at hF
    unfold ref04_Log_Note.s at hF
    have hp := h.isp 3 rfl (fun Φ f w q => RLog_lp Φ f w q)
    replace h := h.slotc 0 rfl (V' := lpVP p_0 0) (fun _ _ h => eq_lp h hp)
    replace h := h.sep (R := lb p_0 103 [one (eqVP h_0_0), one (eqVP h_0_1)]) (S := (RP.sep (acc h_0_0 9 1 strC s_0.f_Inputs) (mapR h_0_1 arrK (fun l => l.length = 32) (fun u y => acc u 9 1 strC y) s_0.f_Digests))) 3 rfl
    replace h := h.sep (R := acc h_0_0 9 1 strC s_0.f_Inputs) (S := (mapR h_0_1 arrK (fun l => l.length = 32) (fun u y => acc u 9 1 strC y) s_0.f_Digests)) 4 rfl
    replace h := h.sub [0, 1, 2, 3, 4, 5] (by rfl)
    change SatL c [.slot 0 (lpVP p_0 0), .slot 1 (aggVP [bytesCk 32 a_1]), .slot 2 (strVP a_2), .res (lb p_0 103 [one (eqVP h_0_0), one (eqVP h_0_1)]), .res (acc h_0_0 9 1 strC s_0.f_Inputs), .res (mapR h_0_1 arrK (fun l => l.length = 32) (fun u y => acc u 9 1 strC y) s_0.f_Digests)] a w at h
    refine wp_seq ?_
    refine region_do (n := 46) [.slot 4 0 100000 (fun v1_ _ => (lpVP v1_ 0)),
      .res 0 100000 (fun v1_ _ => (lb (v1_) 23 [bytesCk 32 a_1]))] [0, 0] [⟨[1], [], [6, 7], [], some 4⟩] [0, 2, 6, 3, 4, 5, 7] mixed hn hG h (by kernel_rfl) ?_ ?_
    · exact ⟨⟨rfl, fun β => (GOk.plain (op_box (opt 0 rfl) (cells_agg _)) rfl)⟩, trivial⟩
    clear h
    intro β a w h
    change SatL c [.slot 0 (lpVP p_0 0), .slot 2 (strVP a_2), .slot 4 (lpVP (β 0) 0), .res (lb p_0 103 [one (eqVP h_0_0), one (eqVP h_0_1)]), .res (acc h_0_0 9 1 strC s_0.f_Inputs), .res (mapR h_0_1 arrK (fun l => l.length = 32) (fun u y => acc u 9 1 strC y) s_0.f_Digests), .res (lb (β 0) 23 [bytesCk 32 a_1])] a w at h
    generalize β 0 = p3 at h
    clear β
    show Code.wp Tryd.prog _ _ a w
    refine wp_seq ?_
    refine wp_seq ?_
    refine region_do (n := 46) [.slot 8 100000 100000 (fun _ _ => (lpVP p_0 0)),
      .slot 9 100000 100000 (fun _ _ => (boolVP false))] [0, 1] [⟨[0], [], [7], [], some 8⟩, ⟨[7], [], [8], [0], some 9⟩] [0, 1, 2, 8, 3, 4, 5, 6] mixed hn hG h (by kernel_rfl) ?_ ?_
    · exact ⟨⟨rfl, fun β => (GOk.plain (op_move (opt 0 rfl)) rfl)⟩, ⟨rfl, fun β => (GOk.plain (op_bin (bin_pnil Tryd.underlying42) (lp_ptr (opt 0 rfl)) (opc (ec _))) rfl)⟩, trivial⟩
    clear h
    intro β a w h
    change SatL c [.slot 0 (lpVP p_0 0), .slot 2 (strVP a_2), .slot 4 (lpVP p3 0), .slot 9 (boolVP false), .res (lb p_0 103 [one (eqVP h_0_0), one (eqVP h_0_1)]), .res (acc h_0_0 9 1 strC s_0.f_Inputs), .res (mapR h_0_1 arrK (fun l => l.length = 32) (fun u y => acc u 9 1 strC y) s_0.f_Digests), .res (lb p3 23 [bytesCk 32 a_1])] a w at h
    clear β
    show Code.wp Tryd.prog _ _ a w
    refine cond_L h 3 rfl (fun hb4 => ?_) (fun hb4 => ?_)
    · cases hb4
    · skip
      replace h := h.sub [0, 1, 2, 4, 5, 6, 7] (by rfl)
      change SatL c [.slot 0 (lpVP p_0 0), .slot 2 (strVP a_2), .slot 4 (lpVP p3 0), .res (lb p_0 103 [one (eqVP h_0_0), one (eqVP h_0_1)]), .res (acc h_0_0 9 1 strC s_0.f_Inputs), .res (mapR h_0_1 arrK (fun l => l.length = 32) (fun u y => acc u 9 1 strC y) s_0.f_Digests), .res (lb p3 23 [bytesCk 32 a_1])] a w at h
      refine wp_skip ?_
      show Code.wp Tryd.prog _ _ a w
      refine wp_seq ?_
      refine wp_seq ?_
      refine region_do (n := 46) [.slot 10 100000 100000 (fun _ _ => (lpVP p_0 0)),
      .slot 11 100000 100000 (fun _ _ => (lpVP p_0 0)),
      .slot 12 100000 100000 (fun _ _ => (lpVP p_0 1)),
      .slot 13 100000 100000 (fun _ _ => (eqVP h_0_1)),
      .slot 14 100000 100000 (fun _ _ => (aggVP [bytesCk 32 a_1])),
      .slot 15 100000 100000 (fun _ _ => (slVP strC ((lkp a_1 s_0.f_Digests).getD []))),
      .slot 16 100000 100000 (fun _ _ => (intVP .i64 (((lkp a_1 s_0.f_Digests).getD []).length : Int))),
      .slot 17 100000 100000 (fun _ _ => (intVP .i64 0))] [0, 1, 2, 3, 4, 5, 6, 7] [⟨[0], [], [7], [], some 10⟩, ⟨[7], [], [8], [0], some 11⟩, ⟨[8], [], [9], [0, 1], some 12⟩, ⟨[9, 3], [], [10], [0, 1, 2], some 13⟩, ⟨[2, 6], [], [11], [], some 14⟩, ⟨[10, 11, 5], [], [12], [0, 1, 2, 3, 4], some 15⟩, ⟨[12], [], [13], [0, 1, 2, 3, 4, 5], some 16⟩, ⟨[], [], [14], [], some 17⟩] [0, 1, 2, 12, 13, 14, 3, 4, 5, 6] mixed hn hG h (by kernel_rfl) ?_ ?_
      · exact ⟨⟨rfl, fun β => (GOk.plain (op_move (opt 0 rfl)) rfl)⟩, ⟨rfl, fun β => (GOk.plain (op_nilCheck (opt 0 rfl) (ptr_lp _ _)) rfl)⟩, ⟨rfl, fun β => (GOk.plain (op_fieldAddr_lbm (p := p_0) (n := 1) 0 1 Tryd.underlying103 rfl Tryd.sizeOf100 (by decide) (opt 0 rfl) rfl) rfl)⟩, ⟨rfl, fun β => (GOk.plain (op_load_lb1 [one (eqVP h_0_0)] [] 1 Tryd.isAgg100 (opt 0 rfl) rfl rfl) rfl)⟩, ⟨rfl, fun β => (GOk.plain (op_load_lb [] [bytesCk 32 a_1] [] 1 Tryd.isAgg23 Tryd.sizeOf23 (opt 0 rfl) rfl rfl rfl) rfl)⟩, ⟨rfl, fun β => (GOk.plain (op_lookup (slVP strC) [] 2 Tryd.underlying100 (keyArr Tryd.underlying23 Tryd.underlying5 Tryd.type5 Tryd.sizeOf5 Tryd.isAgg5) Tryd.zeroValue101 (opt 0 rfl) (opt 1 rfl) hk_arr rfl res_id (fun _ _ _ _ _ h => acc_sl h) (fun _ => ⟨by decide, .inl ⟨rfl, rfl⟩⟩)) rfl)⟩, ⟨rfl, fun β => (GOk.plain (op_len_sl Tryd.underlying101 (opt 0 rfl)) rfl)⟩, ⟨rfl, fun β => (GOk.plain (op_move (opc (ic (by decide)))) rfl)⟩, trivial⟩
      clear h
      intro β a w h
      change SatL c [.slot 0 (lpVP p_0 0), .slot 2 (strVP a_2), .slot 4 (lpVP p3 0), .slot 15 (slVP strC ((lkp a_1 s_0.f_Digests).getD [])), .slot 16 (intVP .i64 (((lkp a_1 s_0.f_Digests).getD []).length : Int)), .slot 17 (intVP .i64 0), .res (lb p_0 103 [one (eqVP h_0_0), one (eqVP h_0_1)]), .res (acc h_0_0 9 1 strC s_0.f_Inputs), .res (mapR h_0_1 arrK (fun l => l.length = 32) (fun u y => acc u 9 1 strC y) s_0.f_Digests), .res (lb p3 23 [bytesCk 32 a_1])] a w at h
      clear β
      show Code.wp Tryd.prog _ _ a w
      refine wp_block ?_
      obtain ⟨cr16, hl17, hF⟩ := bind_some hF
      refine wp_mono (wp_loopN (R := (Option O_RLog)) (S := Int) (fun s a w => SatL c [.slot 0 (lpVP p_0 0), .slot 2 (strVP a_2), .slot 4 (lpVP p3 0), .slot 15 (slVP strC ((lkp a_1 s_0.f_Digests).getD [])), .slot 16 (intVP .i64 (((lkp a_1 s_0.f_Digests).getD []).length : Int)), .slot 17 (intVP .i64 s), .res (lb p_0 103 [one (eqVP h_0_0), one (eqVP h_0_1)]), .res (acc h_0_0 9 1 strC s_0.f_Inputs), .res (mapR h_0_1 arrK (fun l => l.length = 32) (fun u y => acc u 9 1 strC y) s_0.f_Digests), .res (lb p3 23 [bytesCk 32 a_1])] a w) (fun res e a w => match res with | .next s => e = .exit 0 ∧ SatL c [.slot 0 (lpVP p_0 0), .slot 2 (strVP a_2), .slot 4 (lpVP p3 0), .res (lb p_0 103 [one (eqVP h_0_0), one (eqVP h_0_1)]), .res (acc h_0_0 9 1 strC s_0.f_Inputs), .res (mapR h_0_1 arrK (fun l => l.length = 32) (fun u y => acc u 9 1 strC y) s_0.f_Digests), .res (lb p3 23 [bytesCk 32 a_1])] a w | .ret r => e = .ret ∧ RetOk Tryd.prog Tryd.f79 c (tupVP []) (fun _ => [RLog_e p_0 r]) a w) ?_ _ 0 _ _ _ (h.sub [0, 1, 2, 3, 4, 5, 6, 7, 8, 9] (by rfl)) hl17) ?_
      · clear hl17 hF h
        intro x8 a w o h hF
        change ref04_Log_Note.b1 s_0 a_1 a_2 x8 = some o at hF
        unfold ref04_Log_Note.b1 at hF
        change SatL c [.slot 0 (lpVP p_0 0), .slot 2 (strVP a_2), .slot 4 (lpVP p3 0), .slot 15 (slVP strC ((lkp a_1 s_0.f_Digests).getD [])), .slot 16 (intVP .i64 (((lkp a_1 s_0.f_Digests).getD []).length : Int)), .slot 17 (intVP .i64 x8), .res (lb p_0 103 [one (eqVP h_0_0), one (eqVP h_0_1)]), .res (acc h_0_0 9 1 strC s_0.f_Inputs), .res (mapR h_0_1 arrK (fun l => l.length = 32) (fun u y => acc u 9 1 strC y) s_0.f_Digests), .res (lb p3 23 [bytesCk 32 a_1])] a w at h
        refine wp_seq ?_
        refine region_do (n := 46) [.slot 18 100000 100000 (fun _ _ => (boolVP (decide (x8 < (((lkp a_1 s_0.f_Digests).getD []).length : Int)))))] [0] [⟨[5, 4], [], [10], [], some 18⟩] [0, 1, 2, 3, 4, 5, 10, 6, 7, 8, 9] mixed hn hG h (by kernel_rfl) ?_ ?_
        · exact ⟨⟨rfl, fun β => (GOk.plain (op_bin bin_lss (opt 0 rfl) (opt 1 rfl)) rfl)⟩, trivial⟩
        clear h
        intro β a w h
        change SatL c [.slot 0 (lpVP p_0 0), .slot 2 (strVP a_2), .slot 4 (lpVP p3 0), .slot 15 (slVP strC ((lkp a_1 s_0.f_Digests).getD [])), .slot 16 (intVP .i64 (((lkp a_1 s_0.f_Digests).getD []).length : Int)), .slot 17 (intVP .i64 x8), .slot 18 (boolVP (decide (x8 < (((lkp a_1 s_0.f_Digests).getD []).length : Int)))), .res (lb p_0 103 [one (eqVP h_0_0), one (eqVP h_0_1)]), .res (acc h_0_0 9 1 strC s_0.f_Inputs), .res (mapR h_0_1 arrK (fun l => l.length = 32) (fun u y => acc u 9 1 strC y) s_0.f_Digests), .res (lb p3 23 [bytesCk 32 a_1])] a w at h
        clear β
        show Code.wp Tryd.prog _ _ a w
        refine wp_seq ?_
        refine cond_L h 6 rfl (fun hb13 => ?_) (fun hb13 => ?_)
        · replace hF := tt_of hb13 hF
          replace h := h.sub [0, 1, 2, 3, 4, 5, 7, 8, 9, 10] (by rfl)
          change SatL c [.slot 0 (lpVP p_0 0), .slot 2 (strVP a_2), .slot 4 (lpVP p3 0), .slot 15 (slVP strC ((lkp a_1 s_0.f_Digests).getD [])), .slot 16 (intVP .i64 (((lkp a_1 s_0.f_Digests).getD []).length : Int)), .slot 17 (intVP .i64 x8), .res (lb p_0 103 [one (eqVP h_0_0), one (eqVP h_0_1)]), .res (acc h_0_0 9 1 strC s_0.f_Inputs), .res (mapR h_0_1 arrK (fun l => l.length = 32) (fun u y => acc u 9 1 strC y) s_0.f_Digests), .res (lb p3 23 [bytesCk 32 a_1])] a w at h
          refine wp_skip ?_
          show Code.wp Tryd.prog _ _ a w
          refine wp_seq ?_
          refine wp_block ?_
          refine wp_seq ?_
          obtain ⟨hv14, hF⟩ := ite_some hF
          refine region_do (n := 46) [.slot 19 100000 100000 (fun _ _ => (ppVP [one (strVP (((lkp a_1 s_0.f_Digests).getD []).getD x8.toNat default))])),
      .slot 20 100000 100000 (fun _ _ => (strVP (((lkp a_1 s_0.f_Digests).getD []).getD x8.toNat default))),
      .slot 7 100000 100000 (fun _ _ => (strVP (((lkp a_1 s_0.f_Digests).getD []).getD x8.toNat default)))] [0, 1, 2] [⟨[3, 5], [], [10], [], some 19⟩, ⟨[10], [], [11], [0], some 20⟩, ⟨[11], [], [12], [0, 1], some 7⟩] [0, 1, 2, 12, 3, 4, 5, 6, 7, 8, 9] mixed hn hG h (by kernel_rfl) ?_ ?_
          · exact ⟨⟨rfl, fun β => (GOk.plain (op_indexAddr_sl Tryd.underlying101 Tryd.sizeOf9 lens_strC (opt 0 rfl) (opt 1 rfl) hv14) rfl)⟩, ⟨rfl, fun β => (GOk.plain (op_load_pp1 [] Tryd.isAgg9 (opt 0 rfl)) rfl)⟩, ⟨rfl, fun β => (GOk.plain (op_assign (opt 0 rfl)) rfl)⟩, trivial⟩
          clear h
          intro β a w h
          change SatL c [.slot 0 (lpVP p_0 0), .slot 2 (strVP a_2), .slot 4 (lpVP p3 0), .slot 7 (strVP (((lkp a_1 s_0.f_Digests).getD []).getD x8.toNat default)), .slot 15 (slVP strC ((lkp a_1 s_0.f_Digests).getD [])), .slot 16 (intVP .i64 (((lkp a_1 s_0.f_Digests).getD []).length : Int)), .slot 17 (intVP .i64 x8), .res (lb p_0 103 [one (eqVP h_0_0), one (eqVP h_0_1)]), .res (acc h_0_0 9 1 strC s_0.f_Inputs), .res (mapR h_0_1 arrK (fun l => l.length = 32) (fun u y => acc u 9 1 strC y) s_0.f_Digests), .res (lb p3 23 [bytesCk 32 a_1])] a w at h
          clear β
          show Code.wp Tryd.prog _ _ a w
          refine wp_seq ?_
          refine region_do (n := 46) [.slot 21 100000 100000 (fun _ _ => (strVP (((lkp a_1 s_0.f_Digests).getD []).getD x8.toNat default))),
      .slot 22 100000 100000 (fun _ _ => (strVP a_2)),
      .slot 23 100000 100000 (fun _ _ => (boolVP (decide ((((lkp a_1 s_0.f_Digests).getD []).getD x8.toNat default) = a_2))))] [0, 1, 2] [⟨[3], [], [11], [], some 21⟩, ⟨[1], [], [12], [0], some 22⟩, ⟨[11, 12], [], [13], [0, 1], some 23⟩] [0, 1, 2, 4, 5, 6, 13, 7, 8, 9, 10] mixed hn hG h (by kernel_rfl) ?_ ?_
          · exact ⟨⟨rfl, fun β => (GOk.plain (op_move (opt 0 rfl)) rfl)⟩, ⟨rfl, fun β => (GOk.plain (op_move (opt 0 rfl)) rfl)⟩, ⟨rfl, fun β => (GOk.plain (op_bin bin_seql (opt 0 rfl) (opt 1 rfl)) rfl)⟩, trivial⟩
          clear h
          intro β a w h
          change SatL c [.slot 0 (lpVP p_0 0), .slot 2 (strVP a_2), .slot 4 (lpVP p3 0), .slot 15 (slVP strC ((lkp a_1 s_0.f_Digests).getD [])), .slot 16 (intVP .i64 (((lkp a_1 s_0.f_Digests).getD []).length : Int)), .slot 17 (intVP .i64 x8), .slot 23 (boolVP (decide ((((lkp a_1 s_0.f_Digests).getD []).getD x8.toNat default) = a_2))), .res (lb p_0 103 [one (eqVP h_0_0), one (eqVP h_0_1)]), .res (acc h_0_0 9 1 strC s_0.f_Inputs), .res (mapR h_0_1 arrK (fun l => l.length = 32) (fun u y => acc u 9 1 strC y) s_0.f_Digests), .res (lb p3 23 [bytesCk 32 a_1])] a w at h
          clear β
          show Code.wp Tryd.prog _ _ a w
          refine cond_L h 6 rfl (fun hb15 => ?_) (fun hb15 => ?_)
          · replace hF := tt_of hb15 hF
            replace h := h.sub [7, 8, 9] (by rfl)
            change SatL c [.res (lb p_0 103 [one (eqVP h_0_0), one (eqVP h_0_1)]), .res (acc h_0_0 9 1 strC s_0.f_Inputs), .res (mapR h_0_1 arrK (fun l => l.length = 32) (fun u y => acc u 9 1 strC y) s_0.f_Digests)] a w at h
            refine wp_ret ?_
            replace h := h.unsep 1 2 rfl rfl (by decide)
            replace h := h.unsep 0 1 rfl rfl (by decide)
            replace h := h.conv 0 rfl (R' := RLog_e p_0 (some s_0)) (RLog_packo (v0 := h_0_0) (v1 := h_0_1) (o := (some s_0)))
            replace h := h.sub [0] (by rfl)
            change SatL c [.res (RLog_e p_0 (some s_0))] a w at h
            obtain rfl := Option.some.inj hF
            exact ⟨ret_ne, rfl, retn h (rs := []) (Vs := []) Tryd.results79 (by decide) trivial [0] [(RLog_e p_0 (some s_0))] rfl rfl rfl⟩
          · replace hF := ff_of hb15 hF
            replace h := h.sub [0, 1, 2, 3, 4, 5, 7, 8, 9, 10] (by rfl)
            change SatL c [.slot 0 (lpVP p_0 0), .slot 2 (strVP a_2), .slot 4 (lpVP p3 0), .slot 15 (slVP strC ((lkp a_1 s_0.f_Digests).getD [])), .slot 16 (intVP .i64 (((lkp a_1 s_0.f_Digests).getD []).length : Int)), .slot 17 (intVP .i64 x8), .res (lb p_0 103 [one (eqVP h_0_0), one (eqVP h_0_1)]), .res (acc h_0_0 9 1 strC s_0.f_Inputs), .res (mapR h_0_1 arrK (fun l => l.length = 32) (fun u y => acc u 9 1 strC y) s_0.f_Digests), .res (lb p3 23 [bytesCk 32 a_1])] a w at h
            refine wp_skip ?_
            show Code.wp Tryd.prog _ _ a w
            refine region_do (n := 46) [.slot 24 100000 100000 (fun _ _ => (intVP .i64 (IntKind.wrap .i64 (x8 + 1)))),
      .slot 17 100000 100000 (fun _ _ => (intVP .i64 (IntKind.wrap .i64 (x8 + 1))))] [0, 1] [⟨[5], [], [10], [], some 24⟩, ⟨[10], [5], [11], [0], some 17⟩] [0, 1, 2, 3, 4, 11, 6, 7, 8, 9] mixed hn hG h (by kernel_rfl) ?_ ?_
            · exact ⟨⟨rfl, fun β => (GOk.plain (op_bin bin_add (opt 0 rfl) (opc (ic (by decide)))) rfl)⟩, ⟨rfl, fun β => (GOk.drop _ (GOk.plain (op_move (opt 0 rfl)) rfl))⟩, trivial⟩
            clear h
            intro β a w h
            change SatL c [.slot 0 (lpVP p_0 0), .slot 2 (strVP a_2), .slot 4 (lpVP p3 0), .slot 15 (slVP strC ((lkp a_1 s_0.f_Digests).getD [])), .slot 16 (intVP .i64 (((lkp a_1 s_0.f_Digests).getD []).length : Int)), .slot 17 (intVP .i64 (IntKind.wrap .i64 (x8 + 1))), .res (lb p_0 103 [one (eqVP h_0_0), one (eqVP h_0_1)]), .res (acc h_0_0 9 1 strC s_0.f_Inputs), .res (mapR h_0_1 arrK (fun l => l.length = 32) (fun u y => acc u 9 1 strC y) s_0.f_Digests), .res (lb p3 23 [bytesCk 32 a_1])] a w at h
            clear β
            obtain rfl := Option.some.inj hF
            exact ⟨rfl, h.sub [0, 1, 2, 3, 4, 5, 6, 7, 8, 9] (by rfl)⟩
        · replace hF := ff_of hb13 hF
          replace h := h.sub [0, 1, 2, 3, 4, 5, 7, 8, 9, 10] (by rfl)
          change SatL c [.slot 0 (lpVP p_0 0), .slot 2 (strVP a_2), .slot 4 (lpVP p3 0), .slot 15 (slVP strC ((lkp a_1 s_0.f_Digests).getD [])), .slot 16 (intVP .i64 (((lkp a_1 s_0.f_Digests).getD []).length : Int)), .slot 17 (intVP .i64 x8), .res (lb p_0 103 [one (eqVP h_0_0), one (eqVP h_0_1)]), .res (acc h_0_0 9 1 strC s_0.f_Inputs), .res (mapR h_0_1 arrK (fun l => l.length = 32) (fun u y => acc u 9 1 strC y) s_0.f_Digests), .res (lb p3 23 [bytesCk 32 a_1])] a w at h
          refine wp_exit ?_
          obtain rfl := Option.some.inj hF
          exact ⟨exit_ne _, rfl, h.sub [0, 1, 2, 6, 7, 8, 9] (by rfl)⟩
      · clear hl17
        intro e a w hq
        cases cr16 with
        | ret r18 =>
          obtain ⟨rfl, hq⟩ := hq
          obtain rfl := Option.some.inj hF
          exact ⟨.inl rfl, hq⟩
        | next y20 =>
          obtain ⟨rfl, h⟩ := hq
          change SatL c [.slot 0 (lpVP p_0 0), .slot 2 (strVP a_2), .slot 4 (lpVP p3 0), .res (lb p_0 103 [one (eqVP h_0_0), one (eqVP h_0_1)]), .res (acc h_0_0 9 1 strC s_0.f_Inputs), .res (mapR h_0_1 arrK (fun l => l.length = 32) (fun u y => acc u 9 1 strC y) s_0.f_Digests), .res (lb p3 23 [bytesCk 32 a_1])] a w at h
          refine inBlock_at ?_
          show Code.wp Tryd.prog _ _ a w
          refine wp_seq ?_
          obtain ⟨hv21, hF⟩ := ite_some hF
          refine region_do (n := 46) [.slot 25 100000 100000 (fun _ _ => (lpVP p_0 0)),
      .slot 26 100000 100000 (fun _ _ => (lpVP p_0 0)),
      .slot 27 100000 100000 (fun _ _ => (lpVP p_0 1)),
      .slot 28 100000 100000 (fun _ _ => (eqVP h_0_1)),
      .slot 29 100000 100000 (fun _ _ => (aggVP [bytesCk 32 a_1])),
      .slot 31 100000 100000 (fun _ _ => (strVP a_2)),
      .slot 32 100000 100000 (fun _ _ => (slVP strC [a_2])),
      .slot 33 7 100000 (fun v1_ _ => (tupVP [(eqVP (tup0 v1_)), (eqVP (tup1 v1_))])),
      .res 7 100000 (fun v1_ _ => (acc (tup0 v1_) 9 1 strC ((lkp a_1 s_0.f_Digests).getD ([] : List (List UInt8))))),
      .res 7 100000 (fun v1_ _ => (mapH h_0_1 (tup1 v1_) arrK (fun l => l.length = 32) (fun u y => acc u 9 1 strC y) a_1 (ens a_1 ([] : List (List UInt8)) s_0.f_Digests))),
      .slot 30 7 100000 (fun v1_ _ => (eqVP (tup0 v1_))),
      .slot 34 9 100000 (fun v1_ _ => (eqVP v1_)),
      .res 9 100000 (fun v1_ _ => (acc (v1_) 9 1 strC (((lkp a_1 s_0.f_Digests).getD ([] : List (List UInt8))) ++ [a_2]))),
      .slot 35 7 100000 (fun v1_ _ => (eqVP (tup1 v1_))),
      .res 100000 100000 (fun _ _ => (mapR h_0_1 arrK (fun l => l.length = 32) (fun u y => acc u 9 1 strC y) (upd a_1 (((lkp a_1 s_0.f_Digests).getD ([] : List (List UInt8))) ++ [a_2]) (ens a_1 ([] : List (List UInt8)) s_0.f_Digests))))] [0, 1, 2, 3, 4, 5, 6, 7, 7, 7, 8, 9, 9, 10, 11] [⟨[0], [], [7], [], some 25⟩, ⟨[7], [], [8], [0], some 26⟩, ⟨[8], [], [9], [0, 1], some 27⟩, ⟨[9, 3], [], [10], [0, 1, 2], some 28⟩, ⟨[2, 6], [], [11], [], some 29⟩, ⟨[1], [], [12], [], some 31⟩, ⟨[12], [], [13], [5], some 32⟩, ⟨[10, 11], [5], [14, 15, 16], [0, 1, 2, 3, 4, 5, 6], some 33⟩, ⟨[14], [], [17], [0, 1, 2, 3, 4, 5, 6, 7], some 30⟩, ⟨[17, 13], [15], [18, 19], [0, 1, 2, 3, 4, 5, 6, 7, 8], some 34⟩, ⟨[14], [], [20], [0, 1, 2, 3, 4, 5, 6, 7], some 35⟩, ⟨[10, 20, 18], [19, 16], [21], [0, 1, 2, 3, 4, 5, 6, 7, 8, 9, 10], none⟩] [0, 1, 3, 4, 21] mixed hn hG h (by kernel_rfl) ?_ ?_
          · exact ⟨⟨rfl, fun β => (GOk.plain (op_move (opt 0 rfl)) rfl)⟩, ⟨rfl, fun β => (GOk.plain (op_nilCheck (opt 0 rfl) (ptr_lp _ _)) rfl)⟩, ⟨rfl, fun β => (GOk.plain (op_fieldAddr_lbm (p := p_0) (n := 1) 0 1 Tryd.underlying103 rfl Tryd.sizeOf100 (by decide) (opt 0 rfl) rfl) rfl)⟩, ⟨rfl, fun β => (GOk.plain (op_load_lb1 [one (eqVP h_0_0)] [] 1 Tryd.isAgg100 (opt 0 rfl) rfl rfl) rfl)⟩, ⟨rfl, fun β => (GOk.plain (op_load_lb [] [bytesCk 32 a_1] [] 1 Tryd.isAgg23 Tryd.sizeOf23 (opt 0 rfl) rfl rfl rfl) rfl)⟩, ⟨rfl, fun β => (GOk.plain (op_move (opt 0 rfl)) rfl)⟩, ⟨rfl, fun β => (GOk.plain (op_lit (xs := [.tmp 31]) (ys := [a_2]) _ rfl Tryd.underlying101 Tryd.sizeOf9 Tryd.zeroValue9 rfl rfl (by decide) (by decide) ⟨⟨_, (opt 0 rfl), (cells_one (one_str _))⟩, trivial⟩ lens_strC) rfl)⟩, ⟨rfl, fun β => (GOk.plain (op_mapEntry ([] : List (List UInt8)) Tryd.underlying100 (keyArr Tryd.underlying23 Tryd.underlying5 Tryd.type5 Tryd.sizeOf5 Tryd.isAgg5) Tryd.zeroValue101 (opt 0 rfl) (opt 1 rfl) hk_arr (fun _ _ => ⟨by decide, .inl ⟨rfl, rfl, rfl⟩⟩)) rfl)⟩, ⟨rfl, fun β => (GOk.plain (op_extract (V := (eqVP (tup0 (β 7)))) (opt 0 rfl) rfl) rfl)⟩, ⟨rfl, fun β => (GOk.plain (op_append (i := Tryd.t9) Tryd.underlying101 Tryd.type9 rfl lens_strC (by decide) rfl (opt 0 rfl) (opt 1 rfl) hv21) rfl)⟩, ⟨rfl, fun β => (GOk.plain (op_extract (V := (eqVP (tup1 (β 7)))) (opt 0 rfl) rfl) rfl)⟩, ⟨rfl, fun β => (GOk.plain (op_entryStore (eR := (fun u y => acc u 9 1 strC y)) (u := (β 9)) (n := (((lkp a_1 s_0.f_Digests).getD ([] : List (List UInt8))) ++ [a_2])) (opt 0 rfl) (opt 1 rfl) (opt 2 rfl)) rfl)⟩, trivial⟩
          clear h
          intro β a w h
          change SatL c [.slot 0 (lpVP p_0 0), .slot 2 (strVP a_2), .res (lb p_0 103 [one (eqVP h_0_0), one (eqVP h_0_1)]), .res (acc h_0_0 9 1 strC s_0.f_Inputs), .res (mapR h_0_1 arrK (fun l => l.length = 32) (fun u y => acc u 9 1 strC y) (upd a_1 (((lkp a_1 s_0.f_Digests).getD ([] : List (List UInt8))) ++ [a_2]) (ens a_1 ([] : List (List UInt8)) s_0.f_Digests)))] a w at h
          clear β
          show Code.wp Tryd.prog _ _ a w
          obtain ⟨hv22, hF⟩ := ite_some hF
          refine region_do (n := 46) [.slot 36 100000 100000 (fun _ _ => (lpVP p_0 0)),
      .slot 37 100000 100000 (fun _ _ => (lpVP p_0 0)),
      .slot 38 100000 100000 (fun _ _ => (lpVP p_0 0)),
      .slot 39 100000 100000 (fun _ _ => (lpVP p_0 0)),
      .slot 40 100000 100000 (fun _ _ => (eqVP h_0_0)),
      .slot 41 100000 100000 (fun _ _ => (strVP a_2)),
      .slot 42 100000 100000 (fun _ _ => (slVP strC [a_2])),
      .slot 43 7 100000 (fun v1_ _ => (eqVP v1_)),
      .res 7 100000 (fun v1_ _ => (acc (v1_) 9 1 strC (s_0.f_Inputs ++ [a_2]))),
      .slot 44 100000 100000 (fun _ _ => (lpVP p_0 0)),
      .slot 45 100000 100000 (fun _ _ => (lpVP p_0 0)),
      .res 7 100000 (fun v1_ _ => (lb p_0 103 [one (eqVP (v1_)), one (eqVP h_0_1)]))] [0, 1, 2, 3, 4, 5, 6, 7, 7, 8, 9, 10] [⟨[0], [], [5], [], some 36⟩, ⟨[0], [], [6], [0], some 37⟩, ⟨[6], [], [7], [0, 1], some 38⟩, ⟨[7], [], [8], [0, 1, 2], some 39⟩, ⟨[8, 2], [], [9], [0, 1, 2, 3], some 40⟩, ⟨[1], [], [10], [0, 1, 2, 3, 4], some 41⟩, ⟨[10], [], [11], [0, 1, 2, 3, 4, 5], some 42⟩, ⟨[9, 11], [3], [12, 13], [0, 1, 2, 3, 4, 5, 6], some 43⟩, ⟨[5], [], [14], [0, 1, 2, 3, 4, 5, 6, 7], some 44⟩, ⟨[14], [], [15], [0, 1, 2, 3, 4, 5, 6, 7, 8], some 45⟩, ⟨[15, 12, 13], [2], [16], [0, 1, 2, 3, 4, 5, 6, 7, 8, 9], none⟩] [16, 4, 13] mixed hn hG h (by kernel_rfl) ?_ ?_
          · exact ⟨⟨rfl, fun β => (GOk.plain (op_move (opt 0 rfl)) rfl)⟩, ⟨rfl, fun β => (GOk.plain (op_move (opt 0 rfl)) rfl)⟩, ⟨rfl, fun β => (GOk.plain (op_nilCheck (opt 0 rfl) (ptr_lp _ _)) rfl)⟩, ⟨rfl, fun β => (GOk.plain (op_fieldAddr_lbm (p := p_0) (n := 1) 0 0 Tryd.underlying103 rfl Tryd.sizeOf101 (by decide) (opt 0 rfl) rfl) rfl)⟩, ⟨rfl, fun β => (GOk.plain (op_load_lb1 [] [one (eqVP h_0_1)] 1 Tryd.isAgg101 (opt 0 rfl) rfl rfl) rfl)⟩, ⟨rfl, fun β => (GOk.plain (op_move (opt 0 rfl)) rfl)⟩, ⟨rfl, fun β => (GOk.plain (op_lit (xs := [.tmp 41]) (ys := [a_2]) _ rfl Tryd.underlying101 Tryd.sizeOf9 Tryd.zeroValue9 rfl rfl (by decide) (by decide) ⟨⟨_, (opt 0 rfl), (cells_one (one_str _))⟩, trivial⟩ lens_strC) rfl)⟩, ⟨rfl, fun β => (GOk.plain (op_append (i := Tryd.t9) Tryd.underlying101 Tryd.type9 rfl lens_strC (by decide) rfl (opt 0 rfl) (opt 1 rfl) hv22) rfl)⟩, ⟨rfl, fun β => (GOk.plain (op_nilCheck (opt 0 rfl) (ptr_lp _ _)) rfl)⟩, ⟨rfl, fun β => (GOk.plain (op_fieldAddr_lbm (p := p_0) (n := 1) 0 0 Tryd.underlying103 rfl Tryd.sizeOf101 (by decide) (opt 0 rfl) rfl) rfl)⟩, ⟨rfl, fun β => (GOk.plain (op_store_lb [] [one (eqVP h_0_0)] [one (eqVP h_0_1)] [one (eqVP ((β 7)))] Tryd.sizeOf101 (opt 0 rfl) (opone 1 2 rfl rfl acc_one) (cells_h _) rfl rfl rfl) rfl)⟩, trivial⟩
          clear h
          intro β a w h
          change SatL c [.res (lb p_0 103 [one (eqVP (β 7)), one (eqVP h_0_1)]), .res (mapR h_0_1 arrK (fun l => l.length = 32) (fun u y => acc u 9 1 strC y) (upd a_1 (((lkp a_1 s_0.f_Digests).getD ([] : List (List UInt8))) ++ [a_2]) (ens a_1 ([] : List (List UInt8)) s_0.f_Digests))), .res (acc (β 7) 9 1 strC (s_0.f_Inputs ++ [a_2]))] a w at h
          generalize β 7 = p23 at h
          clear β
          replace h := h.unsep 2 1 rfl rfl (by decide)
          replace h := h.unsep 0 2 rfl rfl (by decide)
          replace h := h.conv 0 rfl (R' := RLog_e p_0 (some ⟨s_0.f_Inputs ++ [a_2], upd a_1 (((lkp a_1 s_0.f_Digests).getD ([] : List (List UInt8))) ++ [a_2]) (ens a_1 ([] : List (List UInt8)) s_0.f_Digests)⟩)) (RLog_packo (v0 := p23) (v1 := h_0_1) (o := (some ⟨s_0.f_Inputs ++ [a_2], upd a_1 (((lkp a_1 s_0.f_Digests).getD ([] : List (List UInt8))) ++ [a_2]) (ens a_1 ([] : List (List UInt8)) s_0.f_Digests)⟩)))
          replace h := h.sub [0] (by rfl)
          change SatL c [.res (RLog_e p_0 (some ⟨s_0.f_Inputs ++ [a_2], upd a_1 (((lkp a_1 s_0.f_Digests).getD ([] : List (List UInt8))) ++ [a_2]) (ens a_1 ([] : List (List UInt8)) s_0.f_Digests)⟩))] a w at h
          obtain rfl := Option.some.inj hF
          exact ⟨.inr rfl, retn h (rs := []) (Vs := []) Tryd.results79 (by decide) trivial [0] [(RLog_e p_0 (some ⟨s_0.f_Inputs ++ [a_2], upd a_1 (((lkp a_1 s_0.f_Digests).getD ([] : List (List UInt8))) ++ [a_2]) (ens a_1 ([] : List (List UInt8)) s_0.f_Digests)⟩))] rfl rfl rfl⟩

def ref04_Log_Of (L_0 : Option O_RLog) (a_1 : Int) (a_2 : List (List UInt8)) : Option ((List UInt8) × (Option O_RLog)) := ((ref04_Input a_1 a_2).bind fun r2 => ((ref01_Sum r2).bind fun r3 => ((ref04_Log_Note L_0 r3 r2).bind fun r5 => some (r3, r5))))
theorem ref04_Log_Of_ok {p_0 : Value} {L_0 : Option O_RLog} {a_1 : Int} {a_2 : List (List UInt8)} {r : (List UInt8) × (Option O_RLog)} (hF : ref04_Log_Of L_0 a_1 a_2 = some r) : CallOk Tryd.prog KG 59 [(eqVP p_0), (intVP .u8 a_1), (slVP strC a_2)] [(RLog_e p_0 L_0)] (fun _ => [RLog_e p_0 r.2]) (aggVP [bytesCk 32 r.1]) := by
  refine CallOk.intro 19 Tryd.func59 rfl Tryd.ntmps59 (Nat.le_of_ble_eq_true rfl) ?_
  intro c a w hG hn h
  unfold ref04_Log_Of at hF
  change SatL c [.slot 0 (eqVP p_0), .slot 1 (intVP .u8 a_1), .slot 2 (slVP strC a_2), .res (RLog_e p_0 L_0)] a w at h
  refine wp_seq ?_
  refine region_do (n := 19) [.slot 6 0 100000 (fun v1_ _ => (lpVP v1_ 0)),
      .res 0 100000 (fun v1_ _ => (lb (v1_) 23 [bytesCk 32 (List.replicate 32 0)]))] [0, 0] [⟨[], [], [4, 5], [], some 6⟩] [0, 1, 2, 4, 3, 5] mixed hn hG h (by kernel_rfl) ?_ ?_
  · exact ⟨⟨rfl, fun β => (GOk.plain (op_alloc Tryd.zeroValue23 z23) rfl)⟩, trivial⟩
  clear h
  intro β a w h
  change SatL c [.slot 0 (eqVP p_0), .slot 1 (intVP .u8 a_1), .slot 2 (slVP strC a_2), .slot 6 (lpVP (β 0) 0), .res (RLog_e p_0 L_0), .res (lb (β 0) 23 [bytesCk 32 (List.replicate 32 0)])] a w at h
  generalize β 0 = p1 at h
  clear β
  show Code.wp Tryd.prog _ _ a w
  refine wp_seq ?_
  obtain ⟨r2, hr2, hF⟩ := bind_some hF
  refine region_do (n := 19) [.slot 9 100000 100000 (fun _ _ => (intVP .u8 a_1)),
      .slot 10 100000 100000 (fun _ _ => (slVP strC a_2)),
      .slot 11 100000 100000 (fun _ _ => (strVP r2)),
      .slot 7 100000 100000 (fun _ _ => (strVP r2))] [0, 1, 2, 3] [⟨[1], [], [6], [], some 9⟩, ⟨[2], [], [7], [0], some 10⟩, ⟨[6, 7], [], [8], [0, 1], some 11⟩, ⟨[8], [], [9], [0, 1, 2], some 7⟩] [0, 3, 9, 4, 5] mixed hn hG h (by kernel_rfl) ?_ ?_
  · exact ⟨⟨rfl, fun β => (GOk.plain (op_move (opt 0 rfl)) rfl)⟩, ⟨rfl, fun β => (GOk.plain (op_move (opt 0 rfl)) rfl)⟩, ⟨rfl, fun β => (GOk.plain (op_call Tryd.call77 (ref04_Input_ok hr2) ⟨(opt 0 rfl), (opt 1 rfl), trivial⟩) rfl)⟩, ⟨rfl, fun β => (GOk.plain (op_assign (opt 0 rfl)) rfl)⟩, trivial⟩
  clear h
  intro β a w h
  change SatL c [.slot 0 (eqVP p_0), .slot 6 (lpVP p1 0), .slot 7 (strVP r2), .res (RLog_e p_0 L_0), .res (lb p1 23 [bytesCk 32 (List.replicate 32 0)])] a w at h
  clear β
  show Code.wp Tryd.prog _ _ a w
  refine wp_seq ?_
  obtain ⟨r3, hr3, hF⟩ := bind_some hF
  refine region_do (n := 19) [.slot 12 100000 100000 (fun _ _ => (strVP r2)),
      .slot 13 100000 100000 (fun _ _ => (aggVP [bytesCk 32 r3])),
      .slot 8 2 100000 (fun v1_ _ => (lpVP v1_ 0)),
      .res 2 100000 (fun v1_ _ => (lb (v1_) 23 [bytesCk 32 (List.replicate 32 0)])),
      .res 2 100000 (fun v1_ _ => (lb (v1_) 23 [bytesCk 32 r3]))] [0, 1, 2, 2, 3] [⟨[2], [], [5], [], some 12⟩, ⟨[5], [], [6], [0], some 13⟩, ⟨[], [], [7, 8], [0, 1], some 8⟩, ⟨[7, 6], [8], [9], [0, 1, 2], none⟩] [0, 1, 2, 7, 3, 4, 9] mixed hn hG h (by kernel_rfl) ?_ ?_
  · exact ⟨⟨rfl, fun β => (GOk.plain (op_move (opt 0 rfl)) rfl)⟩, ⟨rfl, fun β => (GOk.plain (op_call Tryd.call78 (ref01_Sum_ok hr3) ⟨(opt 0 rfl), trivial⟩) rfl)⟩, ⟨rfl, fun β => (GOk.plain (op_alloc Tryd.zeroValue23 z23) rfl)⟩, ⟨rfl, fun β => (GOk.plain (op_store_lb [] [bytesCk 32 (List.replicate 32 0)] [] [bytesCk 32 r3] Tryd.sizeOf23 (opt 0 rfl) (opt 1 rfl) (cells_agg _) rfl rfl rfl) rfl)⟩, trivial⟩
  clear h
  intro β a w h
  change SatL c [.slot 0 (eqVP p_0), .slot 6 (lpVP p1 0), .slot 7 (strVP r2), .slot 8 (lpVP (β 2) 0), .res (RLog_e p_0 L_0), .res (lb p1 23 [bytesCk 32 (List.replicate 32 0)]), .res (lb (β 2) 23 [bytesCk 32 r3])] a w at h
  generalize β 2 = p4 at h
  clear β
  show Code.wp Tryd.prog _ _ a w
  refine wp_seq ?_
  obtain ⟨r5, hr5, hF⟩ := bind_some hF
  refine region_do (n := 19) [.slot 14 100000 100000 (fun _ _ => (eqVP p_0)),
      .slot 15 100000 100000 (fun _ _ => (aggVP [bytesCk 32 r3])),
      .slot 16 100000 100000 (fun _ _ => (strVP r2)),
      .slot 17 100000 100000 (fun _ _ => (tupVP [])),
      .res 100000 100000 (fun _ _ => (RLog_e p_0 r5))] [0, 1, 2, 3, 3] [⟨[0], [], [7], [], some 14⟩, ⟨[3, 6], [], [8], [0], some 15⟩, ⟨[2], [], [9], [0, 1], some 16⟩, ⟨[7, 8, 9], [4], [10, 11], [0, 1, 2], some 17⟩] [1, 3, 5, 6, 11] mixed hn hG h (by kernel_rfl) ?_ ?_
  · exact ⟨⟨rfl, fun β => (GOk.plain (op_move (opt 0 rfl)) rfl)⟩, ⟨rfl, fun β => (GOk.plain (op_load_lb [] [bytesCk 32 r3] [] 1 Tryd.isAgg23 Tryd.sizeOf23 (opt 0 rfl) rfl rfl rfl) rfl)⟩, ⟨rfl, fun β => (GOk.plain (op_move (opt 0 rfl)) rfl)⟩, ⟨rfl, fun β => (GOk.plain (op_call Tryd.call79 (ref04_Log_Note_ok hr5) ⟨(opt 0 rfl), (opt 1 rfl), (opt 2 rfl), trivial⟩) rfl)⟩, trivial⟩
  clear h
  intro β a w h
  change SatL c [.slot 6 (lpVP p1 0), .slot 8 (lpVP p4 0), .res (lb p1 23 [bytesCk 32 (List.replicate 32 0)]), .res (lb p4 23 [bytesCk 32 r3]), .res (RLog_e p_0 r5)] a w at h
  clear β
  show Code.wp Tryd.prog _ _ a w
  refine wp_seq ?_
  refine region_do (n := 19) [.slot 18 100000 100000 (fun _ _ => (aggVP [bytesCk 32 r3])),
      .res 100000 100000 (fun _ _ => (lb p1 23 [bytesCk 32 r3]))] [0, 1] [⟨[1, 3], [], [5], [], some 18⟩, ⟨[0, 5], [2], [6], [0], none⟩] [0, 6, 4] mixed hn hG h (by kernel_rfl) ?_ ?_
  · exact ⟨⟨rfl, fun β => (GOk.plain (op_load_lb [] [bytesCk 32 r3] [] 1 Tryd.isAgg23 Tryd.sizeOf23 (opt 0 rfl) rfl rfl rfl) rfl)⟩, ⟨rfl, fun β => (GOk.plain (op_store_lb [] [bytesCk 32 (List.replicate 32 0)] [] [bytesCk 32 r3] Tryd.sizeOf23 (opt 0 rfl) (opt 1 rfl) (cells_agg _) rfl rfl rfl) rfl)⟩, trivial⟩
  clear h
  intro β a w h
  change SatL c [.slot 6 (lpVP p1 0), .res (lb p1 23 [bytesCk 32 r3]), .res (RLog_e p_0 r5)] a w at h
  clear β
  show Code.wp Tryd.prog _ _ a w
  refine wp_ret ?_
  obtain rfl := Option.some.inj hF
  exact ⟨.inl rfl, ret1 h Tryd.results59 (r_cell 0 1 rfl rfl Tryd.isAgg23 Tryd.sizeOf23 rfl) [2] [(RLog_e p_0 r5)] rfl rfl rfl⟩

def ref03_Bytes (a_0 : List UInt8) : Option (List UInt8) := some (a_0.take ((32 : Int).toNat - (0 : Int).toNat))
theorem ref03_Bytes_ok {a_0 : List UInt8} {r : (List UInt8)} (hF : ref03_Bytes a_0 = some r) : CallOk Tryd.prog KG 61 [(aggVP [bytesCk 32 a_0])] [] (fun _ => []) (strVP r) := by
  refine CallOk.intro 5 Tryd.func61 rfl Tryd.ntmps61 (Nat.le_of_ble_eq_true rfl) ?_
  intro c a w hG hn h
  unfold ref03_Bytes at hF
  change SatL c [.slot 0 (aggVP [bytesCk 32 a_0])] a w at h
  refine wp_seq ?_
  refine region_do (n := 5) [.slot 1 0 100000 (fun v1_ _ => (lpVP v1_ 0)),
      .res 0 100000 (fun v1_ _ => (lb (v1_) 23 [bytesCk 32 a_0])),
      .slot 2 100000 100000 (fun _ _ => (strVP []))] [0, 0, 1] [⟨[0], [], [1, 2], [], some 1⟩, ⟨[], [], [3], [0], some 2⟩] [1, 2] mixed hn hG h (by kernel_rfl) ?_ ?_
  · exact ⟨⟨rfl, fun β => (GOk.plain (op_box (opt 0 rfl) (cells_agg _)) rfl)⟩, ⟨rfl, fun β => (GOk.plain (op_assign (opc (sc _ (by decide)))) rfl)⟩, trivial⟩
  clear h
  intro β a w h
  change SatL c [.slot 1 (lpVP (β 0) 0), .res (lb (β 0) 23 [bytesCk 32 a_0])] a w at h
  generalize β 0 = p1 at h
  clear β
  show Code.wp Tryd.prog _ _ a w
  refine wp_seq ?_
  refine region_do (n := 5) [.slot 3 100000 100000 (fun _ _ => (lslVP p1 (0 + (0 : Int).toNat * 1) ((32 : Int).toNat - (0 : Int).toNat) (32 - (0 : Int).toNat))),
      .slot 4 100000 100000 (fun _ _ => (strVP (a_0.take ((32 : Int).toNat - (0 : Int).toNat)))),
      .slot 2 100000 100000 (fun _ _ => (strVP (a_0.take ((32 : Int).toNat - (0 : Int).toNat))))] [0, 1, 2] [⟨[0], [], [2], [], some 3⟩, ⟨[2, 1], [], [3], [0], some 4⟩, ⟨[3], [], [4], [0, 1], some 2⟩] [4] mixed hn hG h (by kernel_rfl) ?_ ?_
  · exact ⟨⟨rfl, fun β => (GOk.plain (op_slice_lb (a := 0) (b := 32) Tryd.underlying23 Tryd.sizeOf5 (opt 0 rfl) rfl rfl (by decide)) rfl)⟩, ⟨rfl, fun β => (GOk.plain (op_str_lsl [] [] 1 Tryd.underlying129 Tryd.underlying5 Tryd.underlying9 (opt 0 rfl) rfl rfl (by decide) (by decide)) rfl)⟩, ⟨rfl, fun β => (GOk.plain (op_assign (opt 0 rfl)) rfl)⟩, trivial⟩
  clear h
  intro β a w h
  change SatL c [.slot 2 (strVP (a_0.take ((32 : Int).toNat - (0 : Int).toNat)))] a w at h
  clear β
  show Code.wp Tryd.prog _ _ a w
  refine wp_ret ?_
  obtain rfl := Option.some.inj hF
  exact ⟨.inl rfl, ret1 h Tryd.results61 (r_tmp 0 rfl) [] [] rfl rfl rfl⟩

def ref10_Claim (L_0 : Option O_RLog) (a_1 : Int) (a_2 : List UInt8) (a_3 : List UInt8) : Option ((List UInt8) × (Option O_RLog)) := ((ref03_Big (IntKind.wrap .u64 a_1) 4).bind fun r4 => ((ref03_Bytes a_2).bind fun r5 => ((ref03_Bytes a_3).bind fun r6 => ((ref04_Log_Of L_0 7 [r4, r5, r6]).bind fun r7 => some (r7.1, r7.2)))))
theorem ref10_Claim_ok {p_0 : Value} {L_0 : Option O_RLog} {a_1 : Int} {a_2 : List UInt8} {a_3 : List UInt8} {r : (List UInt8) × (Option O_RLog)} (hF : ref10_Claim L_0 a_1 a_2 a_3 = some r) : CallOk Tryd.prog KG 28 [(eqVP p_0), (intVP .u32 a_1), (aggVP [bytesCk 32 a_2]), (aggVP [bytesCk 32 a_3])] [(RLog_e p_0 L_0)] (fun _ => [RLog_e p_0 r.2]) (aggVP [bytesCk 32 r.1]) := by
  refine CallOk.intro 19 Tryd.func28 rfl Tryd.ntmps28 (Nat.le_of_ble_eq_true rfl) ?_
  intro c a w hG hn h
  unfold ref10_Claim at hF
  change SatL c [.slot 0 (eqVP p_0), .slot 1 (intVP .u32 a_1), .slot 2 (aggVP [bytesCk 32 a_2]), .slot 3 (aggVP [bytesCk 32 a_3]), .res (RLog_e p_0 L_0)] a w at h
  refine wp_seq ?_
  refine region_do (n := 19) [.slot 6 0 100000 (fun v1_ _ => (lpVP v1_ 0)),
      .res 0 100000 (fun v1_ _ => (lb (v1_) 23 [bytesCk 32 a_2])),
      .slot 7 1 100000 (fun v1_ _ => (lpVP v1_ 0)),
      .res 1 100000 (fun v1_ _ => (lb (v1_) 23 [bytesCk 32 a_3])),
      .slot 8 2 100000 (fun v1_ _ => (lpVP v1_ 0)),
      .res 2 100000 (fun v1_ _ => (lb (v1_) 23 [bytesCk 32 (List.replicate 32 0)]))] [0, 0, 1, 1, 2, 2] [⟨[2], [], [5, 6], [], some 6⟩, ⟨[3], [], [7, 8], [0], some 7⟩, ⟨[], [], [9, 10], [0, 1], some 8⟩] [0, 1, 5, 7, 9, 4, 6, 8, 10] mixed hn hG h (by kernel_rfl) ?_ ?_
  · exact ⟨⟨rfl, fun β => (GOk.plain (op_box (opt 0 rfl) (cells_agg _)) rfl)⟩, ⟨rfl, fun β => (GOk.plain (op_box (opt 0 rfl) (cells_agg _)) rfl)⟩, ⟨rfl, fun β => (GOk.plain (op_alloc Tryd.zeroValue23 z23) rfl)⟩, trivial⟩
  clear h
  intro β a w h
  change SatL c [.slot 0 (eqVP p_0), .slot 1 (intVP .u32 a_1), .slot 6 (lpVP (β 0) 0), .slot 7 (lpVP (β 1) 0), .slot 8 (lpVP (β 2) 0), .res (RLog_e p_0 L_0), .res (lb (β 0) 23 [bytesCk 32 a_2]), .res (lb (β 1) 23 [bytesCk 32 a_3]), .res (lb (β 2) 23 [bytesCk 32 (List.replicate 32 0)])] a w at h
  generalize β 0 = p1 at h
  generalize β 1 = p2 at h
  generalize β 2 = p3 at h
  clear β
  show Code.wp Tryd.prog _ _ a w
  refine wp_seq ?_
  obtain ⟨r4, hr4, hF⟩ := bind_some hF
  obtain ⟨r5, hr5, hF⟩ := bind_some hF
  obtain ⟨r6, hr6, hF⟩ := bind_some hF
  obtain ⟨r7, hr7, hF⟩ := bind_some hF
  refine region_do (n := 19) [.slot 9 100000 100000 (fun _ _ => (eqVP p_0)),
      .slot 10 100000 100000 (fun _ _ => (intVP .u32 a_1)),
      .slot 11 100000 100000 (fun _ _ => (intVP .u64 (IntKind.wrap .u64 a_1))),
      .slot 12 100000 100000 (fun _ _ => (strVP r4)),
      .slot 13 100000 100000 (fun _ _ => (aggVP [bytesCk 32 a_2])),
      .slot 14 100000 100000 (fun _ _ => (strVP r5)),
      .slot 15 100000 100000 (fun _ _ => (aggVP [bytesCk 32 a_3])),
      .slot 16 100000 100000 (fun _ _ => (strVP r6)),
      .slot 17 100000 100000 (fun _ _ => (slVP strC [r4, r5, r6])),
      .slot 18 100000 100000 (fun _ _ => (aggVP [bytesCk 32 r7.1])),
      .res 100000 100000 (fun _ _ => (RLog_e p_0 r7.2)),
      .res 100000 100000 (fun _ _ => (lb p3 23 [bytesCk 32 r7.1]))] [0, 1, 2, 3, 4, 5, 6, 7, 8, 9, 9, 10] [⟨[0], [], [9], [], some 9⟩, ⟨[1], [], [10], [], some 10⟩, ⟨[10], [], [11], [1], some 11⟩, ⟨[11], [], [12], [1, 2], some 12⟩, ⟨[2, 6], [], [13], [], some 13⟩, ⟨[13], [], [14], [1, 2, 3, 4], some 14⟩, ⟨[3, 7], [], [15], [], some 15⟩, ⟨[15], [], [16], [1, 2, 3, 4, 5, 6], some 16⟩, ⟨[12, 14, 16], [], [17], [1, 2, 3, 4, 5, 6, 7], some 17⟩, ⟨[9, 17], [5], [18, 19], [0, 1, 2, 3, 4, 5, 6, 7, 8], some 18⟩, ⟨[4, 18], [8], [20], [0, 1, 2, 3, 4, 5, 6, 7, 8, 9], none⟩] [4, 20, 19] mixed hn hG h (by kernel_rfl) ?_ ?_
  · exact ⟨⟨rfl, fun β => (GOk.plain (op_move (opt 0 rfl)) rfl)⟩, ⟨rfl, fun β => (GOk.plain (op_move (opt 0 rfl)) rfl)⟩, ⟨rfl, fun β => (GOk.plain (op_convert_int Tryd.underlying51 Tryd.underlying114 (opt 0 rfl)) rfl)⟩, ⟨rfl, fun β => (GOk.plain (op_call Tryd.call60 (ref03_Big_ok hr4) ⟨(opt 0 rfl), (opc (ic (by decide))), trivial⟩) rfl)⟩, ⟨rfl, fun β => (GOk.plain (op_load_lb [] [bytesCk 32 a_2] [] 1 Tryd.isAgg23 Tryd.sizeOf23 (opt 0 rfl) rfl rfl rfl) rfl)⟩, ⟨rfl, fun β => (GOk.plain (op_call Tryd.call61 (ref03_Bytes_ok hr5) ⟨(opt 0 rfl), trivial⟩) rfl)⟩, ⟨rfl, fun β => (GOk.plain (op_load_lb [] [bytesCk 32 a_3] [] 1 Tryd.isAgg23 Tryd.sizeOf23 (opt 0 rfl) rfl rfl rfl) rfl)⟩, ⟨rfl, fun β => (GOk.plain (op_call Tryd.call61 (ref03_Bytes_ok hr6) ⟨(opt 0 rfl), trivial⟩) rfl)⟩, ⟨rfl, fun β => (GOk.plain (op_lit (xs := [.tmp 12, .tmp 14, .tmp 16]) (ys := [r4, r5, r6]) _ rfl Tryd.underlying101 Tryd.sizeOf9 Tryd.zeroValue9 rfl rfl (by decide) (by decide) ⟨⟨_, (opt 0 rfl), (cells_one (one_str _))⟩, ⟨_, (opt 1 rfl), (cells_one (one_str _))⟩, ⟨_, (opt 2 rfl), (cells_one (one_str _))⟩, trivial⟩ lens_strC) rfl)⟩, ⟨rfl, fun β => (GOk.plain (op_call Tryd.call59 (ref04_Log_Of_ok hr7) ⟨(opt 0 rfl), (opc (ic (by decide))), (opt 1 rfl), trivial⟩) rfl)⟩, ⟨rfl, fun β => (GOk.plain (op_store_lb [] [bytesCk 32 (List.replicate 32 0)] [] [bytesCk 32 r7.1] Tryd.sizeOf23 (opt 0 rfl) (opt 1 rfl) (cells_agg _) rfl rfl rfl) rfl)⟩, trivial⟩
  clear h
  intro β a w h
  change SatL c [.slot 8 (lpVP p3 0), .res (lb p3 23 [bytesCk 32 r7.1]), .res (RLog_e p_0 r7.2)] a w at h
  clear β
  show Code.wp Tryd.prog _ _ a w
  refine wp_ret ?_
  obtain rfl := Option.some.inj hF
  exact ⟨.inl rfl, ret1 h Tryd.results28 (r_cell 0 1 rfl rfl Tryd.isAgg23 Tryd.sizeOf23 rfl) [2] [(RLog_e p_0 r7.2)] rfl rfl rfl⟩

def update_Halt (L_0 : Option O_Log) (a_1 : Int) (a_2 : List UInt8) (a_3 : Int) : Option ((List UInt8) × (Option O_Log)) := ((wire_Word a_1).bind fun r3 => ((wire_Digest a_2).bind fun r4 => ((wire_Word (IntKind.wrap .u32 a_3)).bind fun r5 => ((digest_Log_Of L_0 9 [r3, r4, r5]).bind fun r6 => some (r6.1, r6.2)))))
theorem update_Halt_ok {p_0 : Value} {L_0 : Option O_Log} {a_1 : Int} {a_2 : List UInt8} {a_3 : Int} {r : (List UInt8) × (Option O_Log)} (hF : update_Halt L_0 a_1 a_2 a_3 = some r) : CallOk Tryd.prog KG 31 [(eqVP p_0), (intVP .u32 a_1), (aggVP [bytesCk 32 a_2]), (intVP .i64 a_3)] [(Log_e p_0 L_0)] (fun _ => [Log_e p_0 r.2]) (aggVP [bytesCk 32 r.1]) := by
  refine CallOk.intro 19 Tryd.func31 rfl Tryd.ntmps31 (Nat.le_of_ble_eq_true rfl) ?_
  intro c a w hG hn h
  unfold update_Halt at hF
  change SatL c [.slot 0 (eqVP p_0), .slot 1 (intVP .u32 a_1), .slot 2 (aggVP [bytesCk 32 a_2]), .slot 3 (intVP .i64 a_3), .res (Log_e p_0 L_0)] a w at h
  refine wp_seq ?_
  refine region_do (n := 19) [.slot 6 0 100000 (fun v1_ _ => (lpVP v1_ 0)),
      .res 0 100000 (fun v1_ _ => (lb (v1_) 23 [bytesCk 32 a_2])),
      .slot 8 1 100000 (fun v1_ _ => (lpVP v1_ 0)),
      .res 1 100000 (fun v1_ _ => (lb (v1_) 23 [bytesCk 32 (List.replicate 32 0)]))] [0, 0, 1, 1] [⟨[2], [], [5, 6], [], some 6⟩, ⟨[], [], [7, 8], [0], some 8⟩] [0, 1, 3, 5, 7, 4, 6, 8] mixed hn hG h (by kernel_rfl) ?_ ?_
  · exact ⟨⟨rfl, fun β => (GOk.plain (op_box (opt 0 rfl) (cells_agg _)) rfl)⟩, ⟨rfl, fun β => (GOk.plain (op_alloc Tryd.zeroValue23 z23) rfl)⟩, trivial⟩
  clear h
  intro β a w h
  change SatL c [.slot 0 (eqVP p_0), .slot 1 (intVP .u32 a_1), .slot 3 (intVP .i64 a_3), .slot 6 (lpVP (β 0) 0), .slot 8 (lpVP (β 1) 0), .res (Log_e p_0 L_0), .res (lb (β 0) 23 [bytesCk 32 a_2]), .res (lb (β 1) 23 [bytesCk 32 (List.replicate 32 0)])] a w at h
  generalize β 0 = p1 at h
  generalize β 1 = p2 at h
  clear β
  show Code.wp Tryd.prog _ _ a w
  refine wp_seq ?_
  obtain ⟨r3, hr3, hF⟩ := bind_some hF
  obtain ⟨r4, hr4, hF⟩ := bind_some hF
  obtain ⟨r5, hr5, hF⟩ := bind_some hF
  obtain ⟨r6, hr6, hF⟩ := bind_some hF
  refine region_do (n := 19) [.slot 9 100000 100000 (fun _ _ => (eqVP p_0)),
      .slot 10 100000 100000 (fun _ _ => (intVP .u32 a_1)),
      .slot 11 100000 100000 (fun _ _ => (strVP r3)),
      .slot 12 100000 100000 (fun _ _ => (aggVP [bytesCk 32 a_2])),
      .slot 13 100000 100000 (fun _ _ => (strVP r4)),
      .slot 14 100000 100000 (fun _ _ => (intVP .i64 a_3)),
      .slot 15 100000 100000 (fun _ _ => (intVP .u32 (IntKind.wrap .u32 a_3))),
      .slot 16 100000 100000 (fun _ _ => (strVP r5)),
      .slot 17 100000 100000 (fun _ _ => (slVP strC [r3, r4, r5])),
      .slot 18 100000 100000 (fun _ _ => (aggVP [bytesCk 32 r6.1])),
      .res 100000 100000 (fun _ _ => (Log_e p_0 r6.2)),
      .res 100000 100000 (fun _ _ => (lb p2 23 [bytesCk 32 r6.1]))] [0, 1, 2, 3, 4, 5, 6, 7, 8, 9, 9, 10] [⟨[0], [], [8], [], some 9⟩, ⟨[1], [], [9], [], some 10⟩, ⟨[9], [], [10], [1], some 11⟩, ⟨[3, 6], [], [11], [], some 12⟩, ⟨[11], [], [12], [1, 2, 3], some 13⟩, ⟨[2], [], [13], [], some 14⟩, ⟨[13], [], [14], [5], some 15⟩, ⟨[14], [], [15], [1, 2, 3, 4, 5, 6], some 16⟩, ⟨[10, 12, 15], [], [16], [1, 2, 3, 4, 5, 6, 7], some 17⟩, ⟨[8, 16], [5], [17, 18], [0, 1, 2, 3, 4, 5, 6, 7, 8], some 18⟩, ⟨[4, 17], [7], [19], [0, 1, 2, 3, 4, 5, 6, 7, 8, 9], none⟩] [4, 19, 18] mixed hn hG h (by kernel_rfl) ?_ ?_
  · exact ⟨⟨rfl, fun β => (GOk.plain (op_move (opt 0 rfl)) rfl)⟩, ⟨rfl, fun β => (GOk.plain (op_move (opt 0 rfl)) rfl)⟩, ⟨rfl, fun β => (GOk.plain (op_call Tryd.call63 (wire_Word_ok hr3) ⟨(opt 0 rfl), trivial⟩) rfl)⟩, ⟨rfl, fun β => (GOk.plain (op_load_lb [] [bytesCk 32 a_2] [] 1 Tryd.isAgg23 Tryd.sizeOf23 (opt 0 rfl) rfl rfl rfl) rfl)⟩, ⟨rfl, fun β => (GOk.plain (op_call Tryd.call64 (wire_Digest_ok hr4) ⟨(opt 0 rfl), trivial⟩) rfl)⟩, ⟨rfl, fun β => (GOk.plain (op_move (opt 0 rfl)) rfl)⟩, ⟨rfl, fun β => (GOk.plain (op_convert_int Tryd.underlying3 Tryd.underlying51 (opt 0 rfl)) rfl)⟩, ⟨rfl, fun β => (GOk.plain (op_call Tryd.call63 (wire_Word_ok hr5) ⟨(opt 0 rfl), trivial⟩) rfl)⟩, ⟨rfl, fun β => (GOk.plain (op_lit (xs := [.tmp 11, .tmp 13, .tmp 16]) (ys := [r3, r4, r5]) _ rfl Tryd.underlying101 Tryd.sizeOf9 Tryd.zeroValue9 rfl rfl (by decide) (by decide) ⟨⟨_, (opt 0 rfl), (cells_one (one_str _))⟩, ⟨_, (opt 1 rfl), (cells_one (one_str _))⟩, ⟨_, (opt 2 rfl), (cells_one (one_str _))⟩, trivial⟩ lens_strC) rfl)⟩, ⟨rfl, fun β => (GOk.plain (op_call Tryd.call62 (digest_Log_Of_ok hr6) ⟨(opt 0 rfl), (opc (ic (by decide))), (opt 1 rfl), trivial⟩) rfl)⟩, ⟨rfl, fun β => (GOk.plain (op_store_lb [] [bytesCk 32 (List.replicate 32 0)] [] [bytesCk 32 r6.1] Tryd.sizeOf23 (opt 0 rfl) (opt 1 rfl) (cells_agg _) rfl rfl rfl) rfl)⟩, trivial⟩
  clear h
  intro β a w h
  change SatL c [.slot 8 (lpVP p2 0), .res (lb p2 23 [bytesCk 32 r6.1]), .res (Log_e p_0 r6.2)] a w at h
  clear β
  show Code.wp Tryd.prog _ _ a w
  refine wp_ret ?_
  obtain rfl := Option.some.inj hF
  exact ⟨.inl rfl, ret1 h Tryd.results31 (r_cell 0 1 rfl rfl Tryd.isAgg23 Tryd.sizeOf23 rfl) [2] [(Log_e p_0 r6.2)] rfl rfl rfl⟩

def ref10_Halt (L_0 : Option O_RLog) (a_1 : Int) (a_2 : List UInt8) (a_3 : Int) : Option ((List UInt8) × (Option O_RLog)) := ((ref03_Big (IntKind.wrap .u64 a_1) 4).bind fun r3 => ((ref03_Bytes a_2).bind fun r4 => ((ref03_Big (IntKind.wrap .u64 a_3) 4).bind fun r5 => ((ref04_Log_Of L_0 9 [r3, r4, r5]).bind fun r6 => some (r6.1, r6.2)))))
theorem ref10_Halt_ok {p_0 : Value} {L_0 : Option O_RLog} {a_1 : Int} {a_2 : List UInt8} {a_3 : Int} {r : (List UInt8) × (Option O_RLog)} (hF : ref10_Halt L_0 a_1 a_2 a_3 = some r) : CallOk Tryd.prog KG 32 [(eqVP p_0), (intVP .u32 a_1), (aggVP [bytesCk 32 a_2]), (intVP .i64 a_3)] [(RLog_e p_0 L_0)] (fun _ => [RLog_e p_0 r.2]) (aggVP [bytesCk 32 r.1]) := by
  refine CallOk.intro 20 Tryd.func32 rfl Tryd.ntmps32 (Nat.le_of_ble_eq_true rfl) ?_
  intro c a w hG hn h
  unfold ref10_Halt at hF
  change SatL c [.slot 0 (eqVP p_0), .slot 1 (intVP .u32 a_1), .slot 2 (aggVP [bytesCk 32 a_2]), .slot 3 (intVP .i64 a_3), .res (RLog_e p_0 L_0)] a w at h
  refine wp_seq ?_
  refine region_do (n := 20) [.slot 6 0 100000 (fun v1_ _ => (lpVP v1_ 0)),
      .res 0 100000 (fun v1_ _ => (lb (v1_) 23 [bytesCk 32 a_2])),
      .slot 8 1 100000 (fun v1_ _ => (lpVP v1_ 0)),
      .res 1 100000 (fun v1_ _ => (lb (v1_) 23 [bytesCk 32 (List.replicate 32 0)]))] [0, 0, 1, 1] [⟨[2], [], [5, 6], [], some 6⟩, ⟨[], [], [7, 8], [0], some 8⟩] [0, 1, 3, 5, 7, 4, 6, 8] mixed hn hG h (by kernel_rfl) ?_ ?_
  · exact ⟨⟨rfl, fun β => (GOk.plain (op_box (opt 0 rfl) (cells_agg _)) rfl)⟩, ⟨rfl, fun β => (GOk.plain (op_alloc Tryd.zeroValue23 z23) rfl)⟩, trivial⟩
  clear h
  intro β a w h
  change SatL c [.slot 0 (eqVP p_0), .slot 1 (intVP .u32 a_1), .slot 3 (intVP .i64 a_3), .slot 6 (lpVP (β 0) 0), .slot 8 (lpVP (β 1) 0), .res (RLog_e p_0 L_0), .res (lb (β 0) 23 [bytesCk 32 a_2]), .res (lb (β 1) 23 [bytesCk 32 (List.replicate 32 0)])] a w at h
  generalize β 0 = p1 at h
  generalize β 1 = p2 at h
  clear β
  show Code.wp Tryd.prog _ _ a w
  refine wp_seq ?_
  obtain ⟨r3, hr3, hF⟩ := bind_some hF
  obtain ⟨r4, hr4, hF⟩ := bind_some hF
  obtain ⟨r5, hr5, hF⟩ := bind_some hF
  obtain ⟨r6, hr6, hF⟩ := bind_some hF
  refine region_do (n := 20) [.slot 9 100000 100000 (fun _ _ => (eqVP p_0)),
      .slot 10 100000 100000 (fun _ _ => (intVP .u32 a_1)),
      .slot 11 100000 100000 (fun _ _ => (intVP .u64 (IntKind.wrap .u64 a_1))),
      .slot 12 100000 100000 (fun _ _ => (strVP r3)),
      .slot 13 100000 100000 (fun _ _ => (aggVP [bytesCk 32 a_2])),
      .slot 14 100000 100000 (fun _ _ => (strVP r4)),
      .slot 15 100000 100000 (fun _ _ => (intVP .i64 a_3)),
      .slot 16 100000 100000 (fun _ _ => (intVP .u64 (IntKind.wrap .u64 a_3))),
      .slot 17 100000 100000 (fun _ _ => (strVP r5)),
      .slot 18 100000 100000 (fun _ _ => (slVP strC [r3, r4, r5])),
      .slot 19 100000 100000 (fun _ _ => (aggVP [bytesCk 32 r6.1])),
      .res 100000 100000 (fun _ _ => (RLog_e p_0 r6.2)),
      .res 100000 100000 (fun _ _ => (lb p2 23 [bytesCk 32 r6.1]))] [0, 1, 2, 3, 4, 5, 6, 7, 8, 9, 10, 10, 11] [⟨[0], [], [8], [], some 9⟩, ⟨[1], [], [9], [], some 10⟩, ⟨[9], [], [10], [1], some 11⟩, ⟨[10], [], [11], [1, 2], some 12⟩, ⟨[3, 6], [], [12], [], some 13⟩, ⟨[12], [], [13], [1, 2, 3, 4], some 14⟩, ⟨[2], [], [14], [], some 15⟩, ⟨[14], [], [15], [6], some 16⟩, ⟨[15], [], [16], [1, 2, 3, 4, 5, 6, 7], some 17⟩, ⟨[11, 13, 16], [], [17], [1, 2, 3, 4, 5, 6, 7, 8], some 18⟩, ⟨[8, 17], [5], [18, 19], [0, 1, 2, 3, 4, 5, 6, 7, 8, 9], some 19⟩, ⟨[4, 18], [7], [20], [0, 1, 2, 3, 4, 5, 6, 7, 8, 9, 10], none⟩] [4, 20, 19] mixed hn hG h (by kernel_rfl) ?_ ?_
  · exact ⟨⟨rfl, fun β => (GOk.plain (op_move (opt 0 rfl)) rfl)⟩, ⟨rfl, fun β => (GOk.plain (op_move (opt 0 rfl)) rfl)⟩, ⟨rfl, fun β => (GOk.plain (op_convert_int Tryd.underlying51 Tryd.underlying114 (opt 0 rfl)) rfl)⟩, ⟨rfl, fun β => (GOk.plain (op_call Tryd.call60 (ref03_Big_ok hr3) ⟨(opt 0 rfl), (opc (ic (by decide))), trivial⟩) rfl)⟩, ⟨rfl, fun β => (GOk.plain (op_load_lb [] [bytesCk 32 a_2] [] 1 Tryd.isAgg23 Tryd.sizeOf23 (opt 0 rfl) rfl rfl rfl) rfl)⟩, ⟨rfl, fun β => (GOk.plain (op_call Tryd.call61 (ref03_Bytes_ok hr4) ⟨(opt 0 rfl), trivial⟩) rfl)⟩, ⟨rfl, fun β => (GOk.plain (op_move (opt 0 rfl)) rfl)⟩, ⟨rfl, fun β => (GOk.plain (op_convert_int Tryd.underlying3 Tryd.underlying114 (opt 0 rfl)) rfl)⟩, ⟨rfl, fun β => (GOk.plain (op_call Tryd.call60 (ref03_Big_ok hr5) ⟨(opt 0 rfl), (opc (ic (by decide))), trivial⟩) rfl)⟩, ⟨rfl, fun β => (GOk.plain (op_lit (xs := [.tmp 12, .tmp 14, .tmp 17]) (ys := [r3, r4, r5]) _ rfl Tryd.underlying101 Tryd.sizeOf9 Tryd.zeroValue9 rfl rfl (by decide) (by decide) ⟨⟨_, (opt 0 rfl), (cells_one (one_str _))⟩, ⟨_, (opt 1 rfl), (cells_one (one_str _))⟩, ⟨_, (opt 2 rfl), (cells_one (one_str _))⟩, trivial⟩ lens_strC) rfl)⟩, ⟨rfl, fun β => (GOk.plain (op_call Tryd.call59 (ref04_Log_Of_ok hr6) ⟨(opt 0 rfl), (opc (ic (by decide))), (opt 1 rfl), trivial⟩) rfl)⟩, ⟨rfl, fun β => (GOk.plain (op_store_lb [] [bytesCk 32 (List.replicate 32 0)] [] [bytesCk 32 r6.1] Tryd.sizeOf23 (opt 0 rfl) (opt 1 rfl) (cells_agg _) rfl rfl rfl) rfl)⟩, trivial⟩
  clear h
  intro β a w h
  change SatL c [.slot 8 (lpVP p2 0), .res (lb p2 23 [bytesCk 32 r6.1]), .res (RLog_e p_0 r6.2)] a w at h
  clear β
  show Code.wp Tryd.prog _ _ a w
  refine wp_ret ?_
  obtain rfl := Option.some.inj hF
  exact ⟨.inl rfl, ret1 h Tryd.results32 (r_cell 0 1 rfl rfl Tryd.isAgg23 Tryd.sizeOf23 rfl) [2] [(RLog_e p_0 r6.2)] rfl rfl rfl⟩
end Go.Proofs.YtamnmljgcmbliaaDoor
