/- The functions' Lean twins and contracts, printed by this session's own program: part 5. -/
import Derived.Test.YtbhehllkimedaaaDoorG4
namespace Go.Proofs.YtbhehllkimedaaaDoor
open Go Go.RowKit Go.Proofs
set_option maxRecDepth 100000
set_option linter.unusedVariables false
def ref05_Bit.b1 (a_1 : Int) (x6 : Int) (x7 : Int) : Option (Flow Int (Int × Int)) := (if (decide (x7 < (IntKind.wrap .i64 (7 - (a_1.tmod 8))))) = true then some (.cont (IntKind.wrap .i64 (x6.tdiv 2), IntKind.wrap .i64 (x7 + 1))) else some (.brk (x6, x7)))
def ref05_Bit.j1 (a_0 : List UInt8) (a_1 : Int) (x2 : Bool) : Option Int := (if x2 = true then some 0 else (if (0 : Int) ≤ IntKind.wrap .i64 (a_1.tdiv 8) ∧ IntKind.wrap .i64 (a_1.tdiv 8) < 32 then ((loopN (fun s : Int × Int => ref05_Bit.b1 a_1 s.1 s.2) 100000 (IntKind.wrap .i64 ((a_0.getD (IntKind.wrap .i64 (a_1.tdiv 8)).toNat 0).toNat), 0)).bind fun cr => match cr with | .ret r => some r | .next (y16, y17) => some (y16.tmod 2)) else none))
def ref05_Bit (a_0 : List UInt8) (a_1 : Int) : Option Int := (if (decide (a_1 < (0 : Int))) = true then ref05_Bit.j1 a_0 a_1 true else ref05_Bit.j1 a_0 a_1 (decide ((255 : Int) < a_1)))
theorem ref05_Bit_ok {a_0 : List UInt8} {a_1 : Int} {r : Int} (hF : ref05_Bit a_0 a_1 = some r) : CallOk Tryd.prog KG 33 [(aggVP [bytesCk 32 a_0]), (intVP .i64 a_1)] [] (fun _ => []) (intVP .i64 r) := by
  refine CallOk.intro 29 Tryd.func33 rfl Tryd.ntmps33 (Nat.le_of_ble_eq_true rfl) ?_
  intro c a w hG hn h
  unfold ref05_Bit at hF
  change SatL c [.slot 0 (aggVP [bytesCk 32 a_0]), .slot 1 (intVP .i64 a_1)] a w at h
  refine wp_seq ?_
  refine region_do (n := 29) [.slot 2 0 100000 (fun v1_ _ => (lpVP v1_ 0)),
      .res 0 100000 (fun v1_ _ => (lb (v1_) 24 [bytesCk 32 a_0])),
      .slot 4 100000 100000 (fun _ _ => (intVP .i64 0))] [0, 0, 1] [⟨[0], [], [2, 3], [], some 2⟩, ⟨[], [], [4], [0], some 4⟩] [1, 2, 3] mixed hn hG h (by kernel_rfl) ?_ ?_
  · exact ⟨⟨rfl, fun β => (GOk.plain (op_box (opt 0 rfl) (cells_agg _)) rfl)⟩, ⟨rfl, fun β => (GOk.plain (op_assign (opc (ic (by decide)))) rfl)⟩, trivial⟩
  clear h
  intro β a w h
  change SatL c [.slot 1 (intVP .i64 a_1), .slot 2 (lpVP (β 0) 0), .res (lb (β 0) 24 [bytesCk 32 a_0])] a w at h
  generalize β 0 = p1 at h
  clear β
  show Code.wp Tryd.prog _ _ a w
  refine wp_seq ?_
  refine wp_seq ?_
  refine wp_cut (fun a w => ∃ (x2 : Bool), ref05_Bit.j1 a_0 a_1 x2 = some r ∧ SatL c [.slot 1 (intVP .i64 a_1), .slot 2 (lpVP p1 0), .slot 12 (boolVP x2), .res (lb p1 24 [bytesCk 32 a_0])] a w) ?_ ?_
  · rcases Bool.eq_false_or_eq_true (decide (a_1 < (0 : Int))) with hb18 | hb18
    · replace hF := tt_of hb18 hF
      refine region_do (n := 29) [.slot 7 100000 100000 (fun _ _ => (intVP .i64 a_1)),
      .slot 8 100000 100000 (fun _ _ => (boolVP (decide (a_1 < (0 : Int))))),
      .slot 9 100000 100000 (fun _ _ => (boolVP (decide (a_1 < (0 : Int))))),
      .slot 10 100000 100000 (fun _ _ => (eqVP undef)),
      .slot 11 100000 100000 (fun _ _ => (eqVP undef)),
      .slot 12 100000 100000 (fun _ _ => (boolVP true))] [0, 1, 2, 3, 4, 5] [⟨[0], [], [3], [], some 7⟩, ⟨[3], [], [4], [0], some 8⟩, ⟨[4], [], [5], [0, 1], some 9⟩, ⟨[5], [], [6], [0, 1, 2], some 10⟩, ⟨[5], [], [7], [0, 1, 2, 3], some 11⟩, ⟨[5], [], [8], [0, 1, 2, 3, 4], some 12⟩] [0, 1, 8, 2] mixed hn hG h (by kernel_rfl) ?_ ?_
      · exact ⟨⟨rfl, fun β => (GOk.plain (op_move (opt 0 rfl)) rfl)⟩, ⟨rfl, fun β => (GOk.plain (op_bin bin_lss (opt 0 rfl) (opc (ic (by decide)))) rfl)⟩, ⟨rfl, fun β => (GOk.plain (op_move (opt 0 rfl)) rfl)⟩, ⟨rfl, fun β => (GOk.off_v (want := false) hb18 rfl rfl rfl rfl)⟩, ⟨rfl, fun β => (GOk.off_v (want := false) hb18 rfl rfl rfl rfl)⟩, ⟨rfl, fun β => (GOk.plain (op_pick_t hb18 (opt 0 rfl) (opc (bc _))) rfl)⟩, trivial⟩
      clear h
      intro β a w h
      change SatL c [.slot 1 (intVP .i64 a_1), .slot 2 (lpVP p1 0), .slot 12 (boolVP true), .res (lb p1 24 [bytesCk 32 a_0])] a w at h
      clear β
      exact ⟨true, hF, h.sub [0, 1, 2, 3] (by rfl)⟩
    · replace hF := ff_of hb18 hF
      refine region_do (n := 29) [.slot 7 100000 100000 (fun _ _ => (intVP .i64 a_1)),
      .slot 8 100000 100000 (fun _ _ => (boolVP (decide (a_1 < (0 : Int))))),
      .slot 9 100000 100000 (fun _ _ => (boolVP (decide (a_1 < (0 : Int))))),
      .slot 10 100000 100000 (fun _ _ => (intVP .i64 a_1)),
      .slot 11 100000 100000 (fun _ _ => (boolVP (decide ((255 : Int) < a_1)))),
      .slot 12 100000 100000 (fun _ _ => (boolVP (decide ((255 : Int) < a_1))))] [0, 1, 2, 3, 4, 5] [⟨[0], [], [3], [], some 7⟩, ⟨[3], [], [4], [0], some 8⟩, ⟨[4], [], [5], [0, 1], some 9⟩, ⟨[5, 0], [], [6], [0, 1, 2], some 10⟩, ⟨[5, 6], [], [7], [0, 1, 2, 3], some 11⟩, ⟨[5, 7], [], [8], [0, 1, 2, 3, 4], some 12⟩] [0, 1, 8, 2] mixed hn hG h (by kernel_rfl) ?_ ?_
      · exact ⟨⟨rfl, fun β => (GOk.plain (op_move (opt 0 rfl)) rfl)⟩, ⟨rfl, fun β => (GOk.plain (op_bin bin_lss (opt 0 rfl) (opc (ic (by decide)))) rfl)⟩, ⟨rfl, fun β => (GOk.plain (op_move (opt 0 rfl)) rfl)⟩, ⟨rfl, fun β => (GOk.on_eq hb18 rfl rfl rfl (op_move (opt 0 rfl)))⟩, ⟨rfl, fun β => (GOk.on_eq hb18 rfl rfl rfl (op_bin bin_gtr (opt 0 rfl) (opc (ic (by decide)))))⟩, ⟨rfl, fun β => (GOk.plain (op_pick_f hb18 (opt 0 rfl) (opt 1 rfl)) rfl)⟩, trivial⟩
      clear h
      intro β a w h
      change SatL c [.slot 1 (intVP .i64 a_1), .slot 2 (lpVP p1 0), .slot 12 (boolVP (decide ((255 : Int) < a_1))), .res (lb p1 24 [bytesCk 32 a_0])] a w at h
      clear β
      exact ⟨decide ((255 : Int) < a_1), hF, h.sub [0, 1, 2, 3] (by rfl)⟩
  · clear h hF
    rintro a w ⟨x2, hF, h⟩
    unfold ref05_Bit.j1 at hF
    show Code.wp Tryd.prog _ _ a w
    refine cond_L h 2 rfl (fun hb3 => ?_) (fun hb3 => ?_)
    · replace hF := tt_of hb3 hF
      replace h := h.sub [] (by rfl)
      change SatL c [] a w at h
      refine wp_seq ?_
      refine region_do (n := 29) [.slot 4 100000 100000 (fun _ _ => (intVP .i64 0))] [0] [⟨[], [], [0], [], some 4⟩] [0] mixed hn hG h (by kernel_rfl) ?_ ?_
      · exact ⟨⟨rfl, fun β => (GOk.plain (op_assign (opc (ic (by decide)))) rfl)⟩, trivial⟩
      clear h
      intro β a w h
      change SatL c [.slot 4 (intVP .i64 0)] a w at h
      clear β
      show Code.wp Tryd.prog _ _ a w
      refine wp_ret ?_
      obtain rfl := Option.some.inj hF
      exact ⟨.inl rfl, ret1 h Tryd.results33 (r_tmp 0 rfl) [] [] rfl rfl rfl⟩
    · replace hF := ff_of hb3 hF
      replace h := h.sub [0, 1, 3] (by rfl)
      change SatL c [.slot 1 (intVP .i64 a_1), .slot 2 (lpVP p1 0), .res (lb p1 24 [bytesCk 32 a_0])] a w at h
      refine wp_skip ?_
      show Code.wp Tryd.prog _ _ a w
      refine wp_seq ?_
      obtain ⟨hv4, hF⟩ := ite_some hF
      refine region_do (n := 29) [.slot 13 100000 100000 (fun _ _ => (intVP .i64 a_1)),
      .slot 14 100000 100000 (fun _ _ => (intVP .i64 (IntKind.wrap .i64 (a_1.tdiv 8)))),
      .slot 15 100000 100000 (fun _ _ => (lpVP p1 (0 + (IntKind.wrap .i64 (a_1.tdiv 8)).toNat * 1))),
      .slot 16 100000 100000 (fun _ _ => (intVP .u8 ((a_0.getD (IntKind.wrap .i64 (a_1.tdiv 8)).toNat 0).toNat))),
      .slot 17 100000 100000 (fun _ _ => (intVP .i64 (IntKind.wrap .i64 ((a_0.getD (IntKind.wrap .i64 (a_1.tdiv 8)).toNat 0).toNat)))),
      .slot 5 100000 100000 (fun _ _ => (intVP .i64 (IntKind.wrap .i64 ((a_0.getD (IntKind.wrap .i64 (a_1.tdiv 8)).toNat 0).toNat))))] [0, 1, 2, 3, 4, 5] [⟨[0], [], [3], [], some 13⟩, ⟨[3], [], [4], [0], some 14⟩, ⟨[1, 4], [], [5], [0, 1], some 15⟩, ⟨[5, 2], [], [6], [0, 1, 2], some 16⟩, ⟨[6], [], [7], [0, 1, 2, 3], some 17⟩, ⟨[7], [], [8], [0, 1, 2, 3, 4], some 5⟩] [0, 8] mixed hn hG h (by kernel_rfl) ?_ ?_
      · exact ⟨⟨rfl, fun β => (GOk.plain (op_move (opt 0 rfl)) rfl)⟩, ⟨rfl, fun β => (GOk.plain (op_bin (bin_quo (by decide)) (opt 0 rfl) (opc (ic (by decide)))) rfl)⟩, ⟨rfl, fun β => (GOk.plain (op_indexAddr_lb Tryd.underlying24 Tryd.sizeOf5 (opt 0 rfl) (opt 1 rfl) hv4) rfl)⟩, ⟨rfl, fun β => (GOk.plain (op_load_lbB (i := IntKind.wrap .i64 (a_1.tdiv 8)) [] [] 1 Tryd.isAgg5 (opt 0 rfl) rfl rfl hv4) rfl)⟩, ⟨rfl, fun β => (GOk.plain (op_convert_int Tryd.underlying5 Tryd.underlying3 (opt 0 rfl)) rfl)⟩, ⟨rfl, fun β => (GOk.plain (op_assign (opt 0 rfl)) rfl)⟩, trivial⟩
      clear h
      intro β a w h
      change SatL c [.slot 1 (intVP .i64 a_1), .slot 5 (intVP .i64 (IntKind.wrap .i64 ((a_0.getD (IntKind.wrap .i64 (a_1.tdiv 8)).toNat 0).toNat)))] a w at h
      clear β
      show Code.wp Tryd.prog _ _ a w
      refine wp_seq ?_
      refine wp_seq ?_
      refine region_do (n := 29) [.slot 6 100000 100000 (fun _ _ => (intVP .i64 0))] [0] [⟨[], [], [2], [], some 6⟩] [0, 1, 2] mixed hn hG h (by kernel_rfl) ?_ ?_
      · exact ⟨⟨rfl, fun β => (GOk.plain (op_assign (opc (ic (by decide)))) rfl)⟩, trivial⟩
      clear h
      intro β a w h
      change SatL c [.slot 1 (intVP .i64 a_1), .slot 5 (intVP .i64 (IntKind.wrap .i64 ((a_0.getD (IntKind.wrap .i64 (a_1.tdiv 8)).toNat 0).toNat))), .slot 6 (intVP .i64 0)] a w at h
      clear β
      show Code.wp Tryd.prog _ _ a w
      refine wp_block ?_
      obtain ⟨cr12, hl13, hF⟩ := bind_some hF
      refine wp_mono (wp_loopN (R := Int) (S := Int × Int) (fun s a w => SatL c [.slot 1 (intVP .i64 a_1), .slot 5 (intVP .i64 s.1), .slot 6 (intVP .i64 s.2)] a w) (fun res e a w => match res with | .next s => e = .exit 0 ∧ SatL c [.slot 5 (intVP .i64 s.1)] a w | .ret r => e = .ret ∧ RetOk Tryd.prog Tryd.f33 c (intVP .i64 r) (fun _ => []) a w) ?_ _ (IntKind.wrap .i64 ((a_0.getD (IntKind.wrap .i64 (a_1.tdiv 8)).toNat 0).toNat), 0) _ _ _ (h.sub [0, 1, 2] (by rfl)) hl13) ?_
      · clear hl13 hF h
        intro s a w o h hF
        obtain ⟨x6, x7⟩ := s
        change ref05_Bit.b1 a_1 x6 x7 = some o at hF
        unfold ref05_Bit.b1 at hF
        change SatL c [.slot 1 (intVP .i64 a_1), .slot 5 (intVP .i64 x6), .slot 6 (intVP .i64 x7)] a w at h
        refine wp_seq ?_
        refine wp_seq ?_
        refine region_do (n := 29) [.slot 18 100000 100000 (fun _ _ => (intVP .i64 x7)),
      .slot 19 100000 100000 (fun _ _ => (intVP .i64 a_1)),
      .slot 20 100000 100000 (fun _ _ => (intVP .i64 (a_1.tmod 8))),
      .slot 21 100000 100000 (fun _ _ => (intVP .i64 (IntKind.wrap .i64 (7 - (a_1.tmod 8))))),
      .slot 22 100000 100000 (fun _ _ => (boolVP (decide (x7 < (IntKind.wrap .i64 (7 - (a_1.tmod 8)))))))] [0, 1, 2, 3, 4] [⟨[2], [], [3], [], some 18⟩, ⟨[0], [], [4], [0], some 19⟩, ⟨[4], [], [5], [0, 1], some 20⟩, ⟨[5], [], [6], [0, 1, 2], some 21⟩, ⟨[3, 6], [], [7], [0, 1, 2, 3], some 22⟩] [0, 1, 2, 7] mixed hn hG h (by kernel_rfl) ?_ ?_
        · exact ⟨⟨rfl, fun β => (GOk.plain (op_move (opt 0 rfl)) rfl)⟩, ⟨rfl, fun β => (GOk.plain (op_move (opt 0 rfl)) rfl)⟩, ⟨rfl, fun β => (GOk.plain (op_bin (bin_rem (by decide)) (opt 0 rfl) (opc (ic (by decide)))) rfl)⟩, ⟨rfl, fun β => (GOk.plain (op_bin bin_sub (opc (ic (by decide))) (opt 0 rfl)) rfl)⟩, ⟨rfl, fun β => (GOk.plain (op_bin bin_lss (opt 0 rfl) (opt 1 rfl)) rfl)⟩, trivial⟩
        clear h
        intro β a w h
        change SatL c [.slot 1 (intVP .i64 a_1), .slot 5 (intVP .i64 x6), .slot 6 (intVP .i64 x7), .slot 22 (boolVP (decide (x7 < (IntKind.wrap .i64 (7 - (a_1.tmod 8))))))] a w at h
        clear β
        show Code.wp Tryd.prog _ _ a w
        refine cond_L h 3 rfl (fun hb11 => ?_) (fun hb11 => ?_)
        · replace hF := tt_of hb11 hF
          replace h := h.sub [0, 1, 2] (by rfl)
          change SatL c [.slot 1 (intVP .i64 a_1), .slot 5 (intVP .i64 x6), .slot 6 (intVP .i64 x7)] a w at h
          refine wp_skip ?_
          show Code.wp Tryd.prog _ _ a w
          refine wp_seq ?_
          refine wp_block ?_
          refine region_do (n := 29) [.slot 25 100000 100000 (fun _ _ => (intVP .i64 x6)),
      .slot 26 100000 100000 (fun _ _ => (intVP .i64 (IntKind.wrap .i64 (x6.tdiv 2)))),
      .slot 5 100000 100000 (fun _ _ => (intVP .i64 (IntKind.wrap .i64 (x6.tdiv 2))))] [0, 1, 2] [⟨[1], [], [3], [], some 25⟩, ⟨[3], [], [4], [0], some 26⟩, ⟨[4], [1], [5], [0, 1], some 5⟩] [0, 5, 2] mixed hn hG h (by kernel_rfl) ?_ ?_
          · exact ⟨⟨rfl, fun β => (GOk.plain (op_move (opt 0 rfl)) rfl)⟩, ⟨rfl, fun β => (GOk.plain (op_bin (bin_quo (by decide)) (opt 0 rfl) (opc (ic (by decide)))) rfl)⟩, ⟨rfl, fun β => (GOk.drop _ (GOk.plain (op_assign (opt 0 rfl)) rfl))⟩, trivial⟩
          clear h
          intro β a w h
          change SatL c [.slot 1 (intVP .i64 a_1), .slot 5 (intVP .i64 (IntKind.wrap .i64 (x6.tdiv 2))), .slot 6 (intVP .i64 x7)] a w at h
          clear β
          show Code.wp Tryd.prog _ _ a w
          refine region_do (n := 29) [.slot 23 100000 100000 (fun _ _ => (intVP .i64 x7)),
      .slot 24 100000 100000 (fun _ _ => (intVP .i64 (IntKind.wrap .i64 (x7 + 1)))),
      .slot 6 100000 100000 (fun _ _ => (intVP .i64 (IntKind.wrap .i64 (x7 + 1))))] [0, 1, 2] [⟨[2], [], [3], [], some 23⟩, ⟨[3], [], [4], [0], some 24⟩, ⟨[4], [2], [5], [0, 1], some 6⟩] [0, 1, 5] mixed hn hG h (by kernel_rfl) ?_ ?_
          · exact ⟨⟨rfl, fun β => (GOk.plain (op_move (opt 0 rfl)) rfl)⟩, ⟨rfl, fun β => (GOk.plain (op_bin bin_add (opt 0 rfl) (opc (ic (by decide)))) rfl)⟩, ⟨rfl, fun β => (GOk.drop _ (GOk.plain (op_assign (opt 0 rfl)) rfl))⟩, trivial⟩
          clear h
          intro β a w h
          change SatL c [.slot 1 (intVP .i64 a_1), .slot 5 (intVP .i64 (IntKind.wrap .i64 (x6.tdiv 2))), .slot 6 (intVP .i64 (IntKind.wrap .i64 (x7 + 1)))] a w at h
          clear β
          obtain rfl := Option.some.inj hF
          exact ⟨rfl, h.sub [0, 1, 2] (by rfl)⟩
        · replace hF := ff_of hb11 hF
          replace h := h.sub [0, 1, 2] (by rfl)
          change SatL c [.slot 1 (intVP .i64 a_1), .slot 5 (intVP .i64 x6), .slot 6 (intVP .i64 x7)] a w at h
          refine wp_exit ?_
          obtain rfl := Option.some.inj hF
          exact ⟨exit_ne _, rfl, h.sub [1] (by rfl)⟩
      · clear hl13
        intro e a w hq
        cases cr12 with
        | ret r14 =>
          obtain ⟨rfl, hq⟩ := hq
          obtain rfl := Option.some.inj hF
          exact ⟨.inl rfl, hq⟩
        | next s15 =>
          obtain ⟨y16, y17⟩ := s15
          obtain ⟨rfl, h⟩ := hq
          change SatL c [.slot 5 (intVP .i64 y16)] a w at h
          refine inBlock_at ?_
          show Code.wp Tryd.prog _ _ a w
          refine wp_seq ?_
          refine region_do (n := 29) [.slot 27 100000 100000 (fun _ _ => (intVP .i64 y16)),
      .slot 28 100000 100000 (fun _ _ => (intVP .i64 (y16.tmod 2))),
      .slot 4 100000 100000 (fun _ _ => (intVP .i64 (y16.tmod 2)))] [0, 1, 2] [⟨[0], [], [1], [], some 27⟩, ⟨[1], [], [2], [0], some 28⟩, ⟨[2], [], [3], [0, 1], some 4⟩] [3] mixed hn hG h (by kernel_rfl) ?_ ?_
          · exact ⟨⟨rfl, fun β => (GOk.plain (op_move (opt 0 rfl)) rfl)⟩, ⟨rfl, fun β => (GOk.plain (op_bin (bin_rem (by decide)) (opt 0 rfl) (opc (ic (by decide)))) rfl)⟩, ⟨rfl, fun β => (GOk.plain (op_assign (opt 0 rfl)) rfl)⟩, trivial⟩
          clear h
          intro β a w h
          change SatL c [.slot 4 (intVP .i64 (y16.tmod 2))] a w at h
          clear β
          show Code.wp Tryd.prog _ _ a w
          refine wp_ret ?_
          obtain rfl := Option.some.inj hF
          exact ⟨.inl rfl, ret1 h Tryd.results33 (r_tmp 0 rfl) [] [] rfl rfl rfl⟩

def ref05_Secret (L_0 : Option O_RLog) (a_1 : List UInt8) (a_2 : Int) (a_3 : Int) (a_4 : Int) : Option ((List UInt8) × (Option O_RLog)) := ((ref03_Bytes a_1).bind fun r3 => ((ref03_Big (IntKind.wrap .u64 a_2) 4).bind fun r4 => ((ref03_Big (IntKind.wrap .u64 a_3) 1).bind fun r5 => ((ref03_Big (IntKind.wrap .u64 a_4) 1).bind fun r6 => ((ref04_Log_Of L_0 1 [r3, r4, r5, r6]).bind fun r7 => some (r7.1, r7.2))))))
theorem ref05_Secret_ok {p_0 : Value} {L_0 : Option O_RLog} {a_1 : List UInt8} {a_2 : Int} {a_3 : Int} {a_4 : Int} {r : (List UInt8) × (Option O_RLog)} (hF : ref05_Secret L_0 a_1 a_2 a_3 a_4 = some r) : CallOk Tryd.prog KG 32 [(eqVP p_0), (aggVP [bytesCk 32 a_1]), (intVP .i64 a_2), (intVP .i64 a_3), (intVP .i64 a_4)] [(RLog_e p_0 L_0)] (fun _ => [RLog_e p_0 r.2]) (aggVP [bytesCk 32 r.1]) := by
  refine CallOk.intro 25 Tryd.func32 rfl Tryd.ntmps32 (Nat.le_of_ble_eq_true rfl) ?_
  intro c a w hG hn h
  unfold ref05_Secret at hF
  change SatL c [.slot 0 (eqVP p_0), .slot 1 (aggVP [bytesCk 32 a_1]), .slot 2 (intVP .i64 a_2), .slot 3 (intVP .i64 a_3), .slot 4 (intVP .i64 a_4), .res (RLog_e p_0 L_0)] a w at h
  refine wp_seq ?_
  refine region_do (n := 25) [.slot 6 0 100000 (fun v1_ _ => (lpVP v1_ 0)),
      .res 0 100000 (fun v1_ _ => (lb (v1_) 24 [bytesCk 32 a_1])),
      .slot 10 1 100000 (fun v1_ _ => (lpVP v1_ 0)),
      .res 1 100000 (fun v1_ _ => (lb (v1_) 24 [bytesCk 32 (List.replicate 32 0)]))] [0, 0, 1, 1] [⟨[1], [], [6, 7], [], some 6⟩, ⟨[], [], [8, 9], [0], some 10⟩] [0, 2, 3, 4, 6, 8, 5, 7, 9] mixed hn hG h (by kernel_rfl) ?_ ?_
  · exact ⟨⟨rfl, fun β => (GOk.plain (op_box (opt 0 rfl) (cells_agg _)) rfl)⟩, ⟨rfl, fun β => (GOk.plain (op_alloc Tryd.zeroValue24 z24) rfl)⟩, trivial⟩
  clear h
  intro β a w h
  change SatL c [.slot 0 (eqVP p_0), .slot 2 (intVP .i64 a_2), .slot 3 (intVP .i64 a_3), .slot 4 (intVP .i64 a_4), .slot 6 (lpVP (β 0) 0), .slot 10 (lpVP (β 1) 0), .res (RLog_e p_0 L_0), .res (lb (β 0) 24 [bytesCk 32 a_1]), .res (lb (β 1) 24 [bytesCk 32 (List.replicate 32 0)])] a w at h
  generalize β 0 = p1 at h
  generalize β 1 = p2 at h
  clear β
  show Code.wp Tryd.prog _ _ a w
  refine wp_seq ?_
  obtain ⟨r3, hr3, hF⟩ := bind_some hF
  obtain ⟨r4, hr4, hF⟩ := bind_some hF
  obtain ⟨r5, hr5, hF⟩ := bind_some hF
  obtain ⟨r6, hr6, hF⟩ := bind_some hF
  obtain ⟨r7, hr7, hF⟩ := bind_some hF
  refine region_do (n := 25) [.slot 11 100000 100000 (fun _ _ => (eqVP p_0)),
      .slot 12 100000 100000 (fun _ _ => (aggVP [bytesCk 32 a_1])),
      .slot 13 100000 100000 (fun _ _ => (strVP r3)),
      .slot 14 100000 100000 (fun _ _ => (intVP .i64 a_2)),
      .slot 15 100000 100000 (fun _ _ => (intVP .u64 (IntKind.wrap .u64 a_2))),
      .slot 16 100000 100000 (fun _ _ => (strVP r4)),
      .slot 17 100000 100000 (fun _ _ => (intVP .i64 a_3)),
      .slot 18 100000 100000 (fun _ _ => (intVP .u64 (IntKind.wrap .u64 a_3))),
      .slot 19 100000 100000 (fun _ _ => (strVP r5)),
      .slot 20 100000 100000 (fun _ _ => (intVP .i64 a_4)),
      .slot 21 100000 100000 (fun _ _ => (intVP .u64 (IntKind.wrap .u64 a_4))),
      .slot 22 100000 100000 (fun _ _ => (strVP r6)),
      .slot 23 100000 100000 (fun _ _ => (slVP strC [r3, r4, r5, r6])),
      .slot 24 100000 100000 (fun _ _ => (aggVP [bytesCk 32 r7.1])),
      .res 100000 100000 (fun _ _ => (RLog_e p_0 r7.2)),
      .res 100000 100000 (fun _ _ => (lb p2 24 [bytesCk 32 r7.1]))] [0, 1, 2, 3, 4, 5, 6, 7, 8, 9, 10, 11, 12, 13, 13, 14] [⟨[0], [], [9], [], some 11⟩, ⟨[4, 7], [], [10], [0], some 12⟩, ⟨[10], [], [11], [0, 1], some 13⟩, ⟨[1], [], [12], [0, 1, 2], some 14⟩, ⟨[12], [], [13], [0, 1, 2, 3], some 15⟩, ⟨[13], [], [14], [0, 1, 2, 3, 4], some 16⟩, ⟨[2], [], [15], [0, 1, 2, 3, 4, 5], some 17⟩, ⟨[15], [], [16], [0, 1, 2, 3, 4, 5, 6], some 18⟩, ⟨[16], [], [17], [0, 1, 2, 3, 4, 5, 6, 7], some 19⟩, ⟨[3], [], [18], [0, 1, 2, 3, 4, 5, 6, 7, 8], some 20⟩, ⟨[18], [], [19], [0, 1, 2, 3, 4, 5, 6, 7, 8, 9], some 21⟩, ⟨[19], [], [20], [0, 1, 2, 3, 4, 5, 6, 7, 8, 9, 10], some 22⟩, ⟨[11, 14, 17, 20], [], [21], [0, 1, 2, 3, 4, 5, 6, 7, 8, 9, 10, 11], some 23⟩, ⟨[9, 21], [6], [22, 23], [0, 1, 2, 3, 4, 5, 6, 7, 8, 9, 10, 11, 12], some 24⟩, ⟨[5, 22], [8], [24], [0, 1, 2, 3, 4, 5, 6, 7, 8, 9, 10, 11, 12, 13], none⟩] [5, 24, 23] mixed hn hG h (by kernel_rfl) ?_ ?_
  · exact ⟨⟨rfl, fun β => (GOk.plain (op_move (opt 0 rfl)) rfl)⟩, ⟨rfl, fun β => (GOk.plain (op_load_lb [] [bytesCk 32 a_1] [] 1 Tryd.isAgg24 Tryd.sizeOf24 (opt 0 rfl) rfl rfl rfl) rfl)⟩, ⟨rfl, fun β => (GOk.plain (op_call Tryd.call42 (ref03_Bytes_ok hr3) ⟨(opt 0 rfl), trivial⟩) rfl)⟩, ⟨rfl, fun β => (GOk.plain (op_move (opt 0 rfl)) rfl)⟩, ⟨rfl, fun β => (GOk.plain (op_convert_int Tryd.underlying3 Tryd.underlying84 (opt 0 rfl)) rfl)⟩, ⟨rfl, fun β => (GOk.plain (op_call Tryd.call49 (ref03_Big_ok hr4) ⟨(opt 0 rfl), (opc (ic (by decide))), trivial⟩) rfl)⟩, ⟨rfl, fun β => (GOk.plain (op_move (opt 0 rfl)) rfl)⟩, ⟨rfl, fun β => (GOk.plain (op_convert_int Tryd.underlying3 Tryd.underlying84 (opt 0 rfl)) rfl)⟩, ⟨rfl, fun β => (GOk.plain (op_call Tryd.call49 (ref03_Big_ok hr5) ⟨(opt 0 rfl), (opc (ic (by decide))), trivial⟩) rfl)⟩, ⟨rfl, fun β => (GOk.plain (op_move (opt 0 rfl)) rfl)⟩, ⟨rfl, fun β => (GOk.plain (op_convert_int Tryd.underlying3 Tryd.underlying84 (opt 0 rfl)) rfl)⟩, ⟨rfl, fun β => (GOk.plain (op_call Tryd.call49 (ref03_Big_ok hr6) ⟨(opt 0 rfl), (opc (ic (by decide))), trivial⟩) rfl)⟩, ⟨rfl, fun β => (GOk.plain (op_lit (xs := [.tmp 13, .tmp 16, .tmp 19, .tmp 22]) (ys := [r3, r4, r5, r6]) _ rfl Tryd.underlying22 Tryd.sizeOf9 Tryd.zeroValue9 rfl rfl (by decide) (by decide) ⟨⟨_, (opt 0 rfl), (cells_one (one_str _))⟩, ⟨_, (opt 1 rfl), (cells_one (one_str _))⟩, ⟨_, (opt 2 rfl), (cells_one (one_str _))⟩, ⟨_, (opt 3 rfl), (cells_one (one_str _))⟩, trivial⟩ lens_strC) rfl)⟩, ⟨rfl, fun β => (GOk.plain (op_call Tryd.call20 (ref04_Log_Of_ok hr7) ⟨(opt 0 rfl), (opc (ic (by decide))), (opt 1 rfl), trivial⟩) rfl)⟩, ⟨rfl, fun β => (GOk.plain (op_store_lb [] [bytesCk 32 (List.replicate 32 0)] [] [bytesCk 32 r7.1] Tryd.sizeOf24 (opt 0 rfl) (opt 1 rfl) (cells_agg _) rfl rfl rfl) rfl)⟩, trivial⟩
  clear h
  intro β a w h
  change SatL c [.slot 10 (lpVP p2 0), .res (lb p2 24 [bytesCk 32 r7.1]), .res (RLog_e p_0 r7.2)] a w at h
  clear β
  show Code.wp Tryd.prog _ _ a w
  refine wp_ret ?_
  obtain rfl := Option.some.inj hF
  exact ⟨.inl rfl, ret1 h Tryd.results32 (r_cell 0 1 rfl rfl Tryd.isAgg24 Tryd.sizeOf24 rfl) [2] [(RLog_e p_0 r7.2)] rfl rfl rfl⟩

def ref05_Public (L_0 : Option O_RLog) (a_1 : List UInt8) : Option ((List UInt8) × (Option O_RLog)) := ((ref03_Bytes a_1).bind fun r3 => ((ref04_Log_Of L_0 2 [r3]).bind fun r4 => some (r4.1, r4.2)))
theorem ref05_Public_ok {p_0 : Value} {L_0 : Option O_RLog} {a_1 : List UInt8} {r : (List UInt8) × (Option O_RLog)} (hF : ref05_Public L_0 a_1 = some r) : CallOk Tryd.prog KG 35 [(eqVP p_0), (aggVP [bytesCk 32 a_1])] [(RLog_e p_0 L_0)] (fun _ => [RLog_e p_0 r.2]) (aggVP [bytesCk 32 r.1]) := by
  refine CallOk.intro 10 Tryd.func35 rfl Tryd.ntmps35 (Nat.le_of_ble_eq_true rfl) ?_
  intro c a w hG hn h
  unfold ref05_Public at hF
  change SatL c [.slot 0 (eqVP p_0), .slot 1 (aggVP [bytesCk 32 a_1]), .res (RLog_e p_0 L_0)] a w at h
  refine wp_seq ?_
  refine region_do (n := 10) [.slot 3 0 100000 (fun v1_ _ => (lpVP v1_ 0)),
      .res 0 100000 (fun v1_ _ => (lb (v1_) 24 [bytesCk 32 a_1])),
      .slot 4 1 100000 (fun v1_ _ => (lpVP v1_ 0)),
      .res 1 100000 (fun v1_ _ => (lb (v1_) 24 [bytesCk 32 (List.replicate 32 0)]))] [0, 0, 1, 1] [⟨[1], [], [3, 4], [], some 3⟩, ⟨[], [], [5, 6], [0], some 4⟩] [0, 3, 5, 2, 4, 6] mixed hn hG h (by kernel_rfl) ?_ ?_
  · exact ⟨⟨rfl, fun β => (GOk.plain (op_box (opt 0 rfl) (cells_agg _)) rfl)⟩, ⟨rfl, fun β => (GOk.plain (op_alloc Tryd.zeroValue24 z24) rfl)⟩, trivial⟩
  clear h
  intro β a w h
  change SatL c [.slot 0 (eqVP p_0), .slot 3 (lpVP (β 0) 0), .slot 4 (lpVP (β 1) 0), .res (RLog_e p_0 L_0), .res (lb (β 0) 24 [bytesCk 32 a_1]), .res (lb (β 1) 24 [bytesCk 32 (List.replicate 32 0)])] a w at h
  generalize β 0 = p1 at h
  generalize β 1 = p2 at h
  clear β
  show Code.wp Tryd.prog _ _ a w
  refine wp_seq ?_
  obtain ⟨r3, hr3, hF⟩ := bind_some hF
  obtain ⟨r4, hr4, hF⟩ := bind_some hF
  refine region_do (n := 10) [.slot 5 100000 100000 (fun _ _ => (eqVP p_0)),
      .slot 6 100000 100000 (fun _ _ => (aggVP [bytesCk 32 a_1])),
      .slot 7 100000 100000 (fun _ _ => (strVP r3)),
      .slot 8 100000 100000 (fun _ _ => (slVP strC [r3])),
      .slot 9 100000 100000 (fun _ _ => (aggVP [bytesCk 32 r4.1])),
      .res 100000 100000 (fun _ _ => (RLog_e p_0 r4.2)),
      .res 100000 100000 (fun _ _ => (lb p2 24 [bytesCk 32 r4.1]))] [0, 1, 2, 3, 4, 4, 5] [⟨[0], [], [6], [], some 5⟩, ⟨[1, 4], [], [7], [0], some 6⟩, ⟨[7], [], [8], [0, 1], some 7⟩, ⟨[8], [], [9], [0, 1, 2], some 8⟩, ⟨[6, 9], [3], [10, 11], [0, 1, 2, 3], some 9⟩, ⟨[2, 10], [5], [12], [0, 1, 2, 3, 4], none⟩] [2, 12, 11] mixed hn hG h (by kernel_rfl) ?_ ?_
  · exact ⟨⟨rfl, fun β => (GOk.plain (op_move (opt 0 rfl)) rfl)⟩, ⟨rfl, fun β => (GOk.plain (op_load_lb [] [bytesCk 32 a_1] [] 1 Tryd.isAgg24 Tryd.sizeOf24 (opt 0 rfl) rfl rfl rfl) rfl)⟩, ⟨rfl, fun β => (GOk.plain (op_call Tryd.call42 (ref03_Bytes_ok hr3) ⟨(opt 0 rfl), trivial⟩) rfl)⟩, ⟨rfl, fun β => (GOk.plain (op_lit (xs := [.tmp 7]) (ys := [r3]) _ rfl Tryd.underlying22 Tryd.sizeOf9 Tryd.zeroValue9 rfl rfl (by decide) (by decide) ⟨⟨_, (opt 0 rfl), (cells_one (one_str _))⟩, trivial⟩ lens_strC) rfl)⟩, ⟨rfl, fun β => (GOk.plain (op_call Tryd.call20 (ref04_Log_Of_ok hr4) ⟨(opt 0 rfl), (opc (ic (by decide))), (opt 1 rfl), trivial⟩) rfl)⟩, ⟨rfl, fun β => (GOk.plain (op_store_lb [] [bytesCk 32 (List.replicate 32 0)] [] [bytesCk 32 r4.1] Tryd.sizeOf24 (opt 0 rfl) (opt 1 rfl) (cells_agg _) rfl rfl rfl) rfl)⟩, trivial⟩
  clear h
  intro β a w h
  change SatL c [.slot 4 (lpVP p2 0), .res (lb p2 24 [bytesCk 32 r4.1]), .res (RLog_e p_0 r4.2)] a w at h
  clear β
  show Code.wp Tryd.prog _ _ a w
  refine wp_ret ?_
  obtain rfl := Option.some.inj hF
  exact ⟨.inl rfl, ret1 h Tryd.results35 (r_cell 0 1 rfl rfl Tryd.isAgg24 Tryd.sizeOf24 rfl) [2] [(RLog_e p_0 r4.2)] rfl rfl rfl⟩

def ref05_Word.b2 (a_1 : List UInt8) (a_2 : Int) (x54 : Int) (x90 : Int) (x91 : Option O_RLog) (x92 : List (UInt8)) : Option (Flow ((List UInt8) × (Option O_RLog)) (Int × (Option O_RLog) × (List (UInt8)))) := (if (decide (x90 < (2 : Int))) = true then ((ref05_Secret x91 a_1 a_2 x54 x90).bind fun r105 => ((ref05_Public r105.2 r105.1).bind fun r106 => ((ref03_Bytes r106.1).bind fun r107 => (if x92.length + r107.length ≤ mxl ∧ (x92.length + r107.length) * 1 ≤ 140737488355328 then some (.cont (IntKind.wrap .i64 (x90 + 1), r106.2, x92 ++ r107)) else none)))) else some (.brk (x90, x91, x92)))
def ref05_Word.b1 (a_1 : List UInt8) (a_2 : Int) (x54 : Int) (x55 : Option O_RLog) (x56 : List (UInt8)) : Option (Flow ((List UInt8) × (Option O_RLog)) (Int × (Option O_RLog) × (List (UInt8)))) := (if (decide (x54 < (32 : Int))) = true then ((loopN (fun s : Int × (Option O_RLog) × (List (UInt8)) => ref05_Word.b2 a_1 a_2 x54 s.1 s.2.1 s.2.2) ((2 - 0 : Int).toNat + 2) (0, x55, x56)).bind fun cr => match cr with | .ret r => some (.ret r) | .next (y114, y115, y116) => some (.cont (IntKind.wrap .i64 (x54 + 1), y115, y116))) else some (.brk (x54, x55, x56)))
def ref05_Word (L_0 : Option O_RLog) (a_1 : List UInt8) (a_2 : Int) : Option ((List UInt8) × (Option O_RLog)) := ((loopN (fun s : Int × (Option O_RLog) × (List (UInt8)) => ref05_Word.b1 a_1 a_2 s.1 s.2.1 s.2.2) ((32 - 0 : Int).toNat + 2) (0, L_0, [])).bind fun cr => match cr with | .ret r => some r | .next (y121, y122, y123) => ((ref04_Log_Of y122 3 [y123]).bind fun r124 => some (r124.1, r124.2)))
theorem ref05_Word_ok {p_0 : Value} {L_0 : Option O_RLog} {a_1 : List UInt8} {a_2 : Int} {r : (List UInt8) × (Option O_RLog)} (hF : ref05_Word L_0 a_1 a_2 = some r) : CallOk Tryd.prog KG 28 [(eqVP p_0), (aggVP [bytesCk 32 a_1]), (intVP .i64 a_2)] [(RLog_e p_0 L_0)] (fun _ => [RLog_e p_0 r.2]) (aggVP [bytesCk 32 r.1]) := by
  refine CallOk.intro 34 Tryd.func28 rfl Tryd.ntmps28 (Nat.le_of_ble_eq_true rfl) ?_
  intro c a w hG hn h
  unfold ref05_Word at hF
  change SatL c [.slot 0 (eqVP p_0), .slot 1 (aggVP [bytesCk 32 a_1]), .slot 2 (intVP .i64 a_2), .res (RLog_e p_0 L_0)] a w at h
  refine wp_seq ?_
  refine region_do (n := 34) [.slot 4 0 100000 (fun v1_ _ => (lpVP v1_ 0)),
      .res 0 100000 (fun v1_ _ => (lb (v1_) 24 [bytesCk 32 a_1])),
      .slot 6 1 100000 (fun v1_ _ => (lpVP v1_ 0)),
      .res 1 100000 (fun v1_ _ => (lb (v1_) 24 [bytesCk 32 (List.replicate 32 0)]))] [0, 0, 1, 1] [⟨[1], [], [4, 5], [], some 4⟩, ⟨[], [], [6, 7], [0], some 6⟩] [0, 2, 4, 6, 3, 5, 7] mixed hn hG h (by kernel_rfl) ?_ ?_
  · exact ⟨⟨rfl, fun β => (GOk.plain (op_box (opt 0 rfl) (cells_agg _)) rfl)⟩, ⟨rfl, fun β => (GOk.plain (op_alloc Tryd.zeroValue24 z24) rfl)⟩, trivial⟩
  clear h
  intro β a w h
  change SatL c [.slot 0 (eqVP p_0), .slot 2 (intVP .i64 a_2), .slot 4 (lpVP (β 0) 0), .slot 6 (lpVP (β 1) 0), .res (RLog_e p_0 L_0), .res (lb (β 0) 24 [bytesCk 32 a_1]), .res (lb (β 1) 24 [bytesCk 32 (List.replicate 32 0)])] a w at h
  generalize β 0 = p1 at h
  generalize β 1 = p2 at h
  clear β
  show Code.wp Tryd.prog _ _ a w
  refine wp_seq ?_
  refine region_do (n := 34) [.slot 7 100000 100000 (fun _ _ => (eqVP (.slice none 0 0)))] [0] [⟨[], [], [7], [], some 7⟩] [0, 1, 2, 3, 7, 4, 5, 6] mixed hn hG h (by kernel_rfl) ?_ ?_
  · exact ⟨⟨rfl, fun β => (GOk.plain (op_assign (opc (ec _))) rfl)⟩, trivial⟩
  clear h
  intro β a w h
  change SatL c [.slot 0 (eqVP p_0), .slot 2 (intVP .i64 a_2), .slot 4 (lpVP p1 0), .slot 6 (lpVP p2 0), .slot 7 (eqVP (.slice none 0 0)), .res (RLog_e p_0 L_0), .res (lb p1 24 [bytesCk 32 a_1]), .res (lb p2 24 [bytesCk 32 (List.replicate 32 0)])] a w at h
  clear β
  show Code.wp Tryd.prog _ _ a w
  refine wp_seq ?_
  refine wp_seq ?_
  refine region_do (n := 34) [.slot 8 100000 100000 (fun _ _ => (intVP .i64 0))] [0] [⟨[], [], [8], [], some 8⟩] [0, 1, 2, 3, 4, 8, 5, 6, 7] mixed hn hG h (by kernel_rfl) ?_ ?_
  · exact ⟨⟨rfl, fun β => (GOk.plain (op_assign (opc (ic (by decide)))) rfl)⟩, trivial⟩
  clear h
  intro β a w h
  change SatL c [.slot 0 (eqVP p_0), .slot 2 (intVP .i64 a_2), .slot 4 (lpVP p1 0), .slot 6 (lpVP p2 0), .slot 7 (eqVP (.slice none 0 0)), .slot 8 (intVP .i64 0), .res (RLog_e p_0 L_0), .res (lb p1 24 [bytesCk 32 a_1]), .res (lb p2 24 [bytesCk 32 (List.replicate 32 0)])] a w at h
  clear β
  show Code.wp Tryd.prog _ _ a w
  refine wp_block ?_
  obtain ⟨q32, h⟩ : ∃ q32 : Value, SatL c [.slot 0 (eqVP p_0), .slot 2 (intVP .i64 a_2), .slot 4 (lpVP p1 0), .slot 6 (lpVP p2 0), .slot 7 (eqVP q32), .slot 8 (intVP .i64 0), .res (RLog_e p_0 L_0), .res (lb p1 24 [bytesCk 32 a_1]), .res (lb p2 24 [bytesCk 32 (List.replicate 32 0)]), .res (acc q32 5 1 bC [])] a w := ⟨.slice none 0 0, (h.nilacc 5 1 bC).sub [0, 1, 2, 3, 4, 5, 6, 7, 8, 9] (by rfl)⟩
  obtain ⟨cr117, hl118, hF⟩ := bind_some hF
  refine wp_mono (wp_loopN (R := (List UInt8) × (Option O_RLog)) (S := Int × (Option O_RLog) × (List (UInt8))) (fun s a w => ∃ q57 : Value, SatL c [.slot 0 (eqVP p_0), .slot 2 (intVP .i64 a_2), .slot 4 (lpVP p1 0), .slot 6 (lpVP p2 0), .slot 7 (eqVP q57), .slot 8 (intVP .i64 s.1), .res (RLog_e p_0 s.2.1), .res (lb p1 24 [bytesCk 32 a_1]), .res (lb p2 24 [bytesCk 32 (List.replicate 32 0)]), .res (acc q57 5 1 bC s.2.2)] a w) (fun res e a w => match res with | .next s => e = .exit 0 ∧ ∃ q57 : Value, SatL c [.slot 0 (eqVP p_0), .slot 6 (lpVP p2 0), .slot 7 (eqVP q57), .res (RLog_e p_0 s.2.1), .res (lb p2 24 [bytesCk 32 (List.replicate 32 0)]), .res (acc q57 5 1 bC s.2.2)] a w | .ret r => e = .ret ∧ RetOk Tryd.prog Tryd.f28 c (aggVP [bytesCk 32 r.1]) (fun _ => [RLog_e p_0 r.2]) a w) ?_ _ (0, L_0, []) _ _ _ ⟨q32, (h.sub [0, 1, 2, 3, 4, 5, 6, 7, 8, 9] (by rfl))⟩ hl118) ?_
  · clear hl118 hF h
    intro s a w o h hF
    obtain ⟨x54, x55, x56⟩ := s
    obtain ⟨q57, h⟩ := h
    change ref05_Word.b1 a_1 a_2 x54 x55 x56 = some o at hF
    unfold ref05_Word.b1 at hF
    change SatL c [.slot 0 (eqVP p_0), .slot 2 (intVP .i64 a_2), .slot 4 (lpVP p1 0), .slot 6 (lpVP p2 0), .slot 7 (eqVP q57), .slot 8 (intVP .i64 x54), .res (RLog_e p_0 x55), .res (lb p1 24 [bytesCk 32 a_1]), .res (lb p2 24 [bytesCk 32 (List.replicate 32 0)]), .res (acc q57 5 1 bC x56)] a w at h
    refine wp_seq ?_
    refine wp_seq ?_
    refine region_do (n := 34) [.slot 10 100000 100000 (fun _ _ => (intVP .i64 x54)),
      .slot 11 100000 100000 (fun _ _ => (boolVP (decide (x54 < (32 : Int)))))] [0, 1] [⟨[5], [], [10], [], some 10⟩, ⟨[10], [], [11], [0], some 11⟩] [0, 1, 2, 3, 4, 5, 11, 6, 7, 8, 9] mixed hn hG h (by kernel_rfl) ?_ ?_
    · exact ⟨⟨rfl, fun β => (GOk.plain (op_move (opt 0 rfl)) rfl)⟩, ⟨rfl, fun β => (GOk.plain (op_bin bin_lss (opt 0 rfl) (opc (ic (by decide)))) rfl)⟩, trivial⟩
    clear h
    intro β a w h
    change SatL c [.slot 0 (eqVP p_0), .slot 2 (intVP .i64 a_2), .slot 4 (lpVP p1 0), .slot 6 (lpVP p2 0), .slot 7 (eqVP q57), .slot 8 (intVP .i64 x54), .slot 11 (boolVP (decide (x54 < (32 : Int)))), .res (RLog_e p_0 x55), .res (lb p1 24 [bytesCk 32 a_1]), .res (lb p2 24 [bytesCk 32 (List.replicate 32 0)]), .res (acc q57 5 1 bC x56)] a w at h
    clear β
    show Code.wp Tryd.prog _ _ a w
    refine cond_L h 6 rfl (fun hb83 => ?_) (fun hb83 => ?_)
    · replace hF := tt_of hb83 hF
      replace h := h.sub [0, 1, 2, 3, 4, 5, 7, 8, 9, 10] (by rfl)
      change SatL c [.slot 0 (eqVP p_0), .slot 2 (intVP .i64 a_2), .slot 4 (lpVP p1 0), .slot 6 (lpVP p2 0), .slot 7 (eqVP q57), .slot 8 (intVP .i64 x54), .res (RLog_e p_0 x55), .res (lb p1 24 [bytesCk 32 a_1]), .res (lb p2 24 [bytesCk 32 (List.replicate 32 0)]), .res (acc q57 5 1 bC x56)] a w at h
      refine wp_skip ?_
      show Code.wp Tryd.prog _ _ a w
      refine wp_seq ?_
      refine wp_block ?_
      refine wp_seq ?_
      refine region_do (n := 34) [.slot 9 100000 100000 (fun _ _ => (intVP .i64 0))] [0] [⟨[], [], [10], [], some 9⟩] [0, 1, 2, 3, 4, 5, 10, 6, 7, 8, 9] mixed hn hG h (by kernel_rfl) ?_ ?_
      · exact ⟨⟨rfl, fun β => (GOk.plain (op_assign (opc (ic (by decide)))) rfl)⟩, trivial⟩
      clear h
      intro β a w h
      change SatL c [.slot 0 (eqVP p_0), .slot 2 (intVP .i64 a_2), .slot 4 (lpVP p1 0), .slot 6 (lpVP p2 0), .slot 7 (eqVP q57), .slot 8 (intVP .i64 x54), .slot 9 (intVP .i64 0), .res (RLog_e p_0 x55), .res (lb p1 24 [bytesCk 32 a_1]), .res (lb p2 24 [bytesCk 32 (List.replicate 32 0)]), .res (acc q57 5 1 bC x56)] a w at h
      clear β
      show Code.wp Tryd.prog _ _ a w
      refine wp_block ?_
      obtain ⟨cr110, hl111, hF⟩ := bind_some hF
      refine wp_mono (wp_loopN (R := (List UInt8) × (Option O_RLog)) (S := Int × (Option O_RLog) × (List (UInt8))) (fun s a w => ∃ q93 : Value, SatL c [.slot 0 (eqVP p_0), .slot 2 (intVP .i64 a_2), .slot 4 (lpVP p1 0), .slot 6 (lpVP p2 0), .slot 7 (eqVP q93), .slot 8 (intVP .i64 x54), .slot 9 (intVP .i64 s.1), .res (RLog_e p_0 s.2.1), .res (lb p1 24 [bytesCk 32 a_1]), .res (lb p2 24 [bytesCk 32 (List.replicate 32 0)]), .res (acc q93 5 1 bC s.2.2)] a w) (fun res e a w => match res with | .next s => e = .exit 2 ∧ ∃ q93 : Value, SatL c [.slot 0 (eqVP p_0), .slot 2 (intVP .i64 a_2), .slot 4 (lpVP p1 0), .slot 6 (lpVP p2 0), .slot 7 (eqVP q93), .slot 8 (intVP .i64 x54), .res (RLog_e p_0 s.2.1), .res (lb p1 24 [bytesCk 32 a_1]), .res (lb p2 24 [bytesCk 32 (List.replicate 32 0)]), .res (acc q93 5 1 bC s.2.2)] a w | .ret r => e = .ret ∧ RetOk Tryd.prog Tryd.f28 c (aggVP [bytesCk 32 r.1]) (fun _ => [RLog_e p_0 r.2]) a w) ?_ _ (0, x55, x56) _ _ _ ⟨q57, (h.sub [0, 1, 2, 3, 4, 5, 6, 7, 8, 9, 10] (by rfl))⟩ hl111) ?_
      · clear hl111 hF h
        intro s a w o h hF
        obtain ⟨x90, x91, x92⟩ := s
        obtain ⟨q93, h⟩ := h
        change ref05_Word.b2 a_1 a_2 x54 x90 x91 x92 = some o at hF
        unfold ref05_Word.b2 at hF
        change SatL c [.slot 0 (eqVP p_0), .slot 2 (intVP .i64 a_2), .slot 4 (lpVP p1 0), .slot 6 (lpVP p2 0), .slot 7 (eqVP q93), .slot 8 (intVP .i64 x54), .slot 9 (intVP .i64 x90), .res (RLog_e p_0 x91), .res (lb p1 24 [bytesCk 32 a_1]), .res (lb p2 24 [bytesCk 32 (List.replicate 32 0)]), .res (acc q93 5 1 bC x92)] a w at h
        refine wp_seq ?_
        refine wp_seq ?_
        refine region_do (n := 34) [.slot 14 100000 100000 (fun _ _ => (intVP .i64 x90)),
      .slot 15 100000 100000 (fun _ _ => (boolVP (decide (x90 < (2 : Int)))))] [0, 1] [⟨[6], [], [11], [], some 14⟩, ⟨[11], [], [12], [0], some 15⟩] [0, 1, 2, 3, 4, 5, 6, 12, 7, 8, 9, 10] mixed hn hG h (by kernel_rfl) ?_ ?_
        · exact ⟨⟨rfl, fun β => (GOk.plain (op_move (opt 0 rfl)) rfl)⟩, ⟨rfl, fun β => (GOk.plain (op_bin bin_lss (opt 0 rfl) (opc (ic (by decide)))) rfl)⟩, trivial⟩
        clear h
        intro β a w h
        change SatL c [.slot 0 (eqVP p_0), .slot 2 (intVP .i64 a_2), .slot 4 (lpVP p1 0), .slot 6 (lpVP p2 0), .slot 7 (eqVP q93), .slot 8 (intVP .i64 x54), .slot 9 (intVP .i64 x90), .slot 15 (boolVP (decide (x90 < (2 : Int)))), .res (RLog_e p_0 x91), .res (lb p1 24 [bytesCk 32 a_1]), .res (lb p2 24 [bytesCk 32 (List.replicate 32 0)]), .res (acc q93 5 1 bC x92)] a w at h
        clear β
        show Code.wp Tryd.prog _ _ a w
        refine cond_L h 7 rfl (fun hb104 => ?_) (fun hb104 => ?_)
        · replace hF := tt_of hb104 hF
          replace h := h.sub [0, 1, 2, 3, 4, 5, 6, 8, 9, 10, 11] (by rfl)
          change SatL c [.slot 0 (eqVP p_0), .slot 2 (intVP .i64 a_2), .slot 4 (lpVP p1 0), .slot 6 (lpVP p2 0), .slot 7 (eqVP q93), .slot 8 (intVP .i64 x54), .slot 9 (intVP .i64 x90), .res (RLog_e p_0 x91), .res (lb p1 24 [bytesCk 32 a_1]), .res (lb p2 24 [bytesCk 32 (List.replicate 32 0)]), .res (acc q93 5 1 bC x92)] a w at h
          refine wp_skip ?_
          show Code.wp Tryd.prog _ _ a w
          refine wp_seq ?_
          refine wp_block ?_
          obtain ⟨r105, hr105, hF⟩ := bind_some hF
          obtain ⟨r106, hr106, hF⟩ := bind_some hF
          obtain ⟨r107, hr107, hF⟩ := bind_some hF
          obtain ⟨hv108, hF⟩ := ite_some hF
          refine region_do (n := 34) [.slot 18 100000 100000 (fun _ _ => (eqVP q93)),
      .slot 19 100000 100000 (fun _ _ => (eqVP p_0)),
      .slot 20 100000 100000 (fun _ _ => (eqVP p_0)),
      .slot 21 100000 100000 (fun _ _ => (aggVP [bytesCk 32 a_1])),
      .slot 22 100000 100000 (fun _ _ => (intVP .i64 a_2)),
      .slot 23 100000 100000 (fun _ _ => (intVP .i64 x54)),
      .slot 24 100000 100000 (fun _ _ => (intVP .i64 x90)),
      .slot 25 100000 100000 (fun _ _ => (aggVP [bytesCk 32 r105.1])),
      .res 100000 100000 (fun _ _ => (RLog_e p_0 r105.2)),
      .slot 26 100000 100000 (fun _ _ => (aggVP [bytesCk 32 r106.1])),
      .res 100000 100000 (fun _ _ => (RLog_e p_0 r106.2)),
      .slot 27 100000 100000 (fun _ _ => (strVP r107)),
      .slot 28 10 100000 (fun v1_ _ => (eqVP v1_)),
      .res 10 100000 (fun v1_ _ => (acc (v1_) 5 1 bC (x92 ++ r107))),
      .slot 7 10 100000 (fun v1_ _ => (eqVP v1_))] [0, 1, 2, 3, 4, 5, 6, 7, 7, 8, 8, 9, 10, 10, 11] [⟨[4], [], [11], [], some 18⟩, ⟨[0], [], [12], [0], some 19⟩, ⟨[0], [], [13], [0, 1], some 20⟩, ⟨[2, 8], [], [14], [0, 1, 2], some 21⟩, ⟨[1], [], [15], [0, 1, 2, 3], some 22⟩, ⟨[5], [], [16], [0, 1, 2, 3, 4], some 23⟩, ⟨[6], [], [17], [0, 1, 2, 3, 4, 5], some 24⟩, ⟨[13, 14, 15, 16, 17], [7], [18, 19], [0, 1, 2, 3, 4, 5, 6], some 25⟩, ⟨[12, 18], [19], [20, 21], [0, 1, 2, 3, 4, 5, 6, 7], some 26⟩, ⟨[20], [], [22], [0, 1, 2, 3, 4, 5, 6, 7, 8], some 27⟩, ⟨[11, 22], [10], [23, 24], [0, 1, 2, 3, 4, 5, 6, 7, 8, 9], some 28⟩, ⟨[23], [4], [25], [0, 1, 2, 3, 4, 5, 6, 7, 8, 9, 10], some 7⟩] [0, 1, 2, 3, 25, 5, 6, 8, 9, 21, 24] mixed hn hG h (by kernel_rfl) ?_ ?_
          · exact ⟨⟨rfl, fun β => (GOk.plain (op_move (opt 0 rfl)) rfl)⟩, ⟨rfl, fun β => (GOk.plain (op_move (opt 0 rfl)) rfl)⟩, ⟨rfl, fun β => (GOk.plain (op_move (opt 0 rfl)) rfl)⟩, ⟨rfl, fun β => (GOk.plain (op_load_lb [] [bytesCk 32 a_1] [] 1 Tryd.isAgg24 Tryd.sizeOf24 (opt 0 rfl) rfl rfl rfl) rfl)⟩, ⟨rfl, fun β => (GOk.plain (op_move (opt 0 rfl)) rfl)⟩, ⟨rfl, fun β => (GOk.plain (op_move (opt 0 rfl)) rfl)⟩, ⟨rfl, fun β => (GOk.plain (op_move (opt 0 rfl)) rfl)⟩, ⟨rfl, fun β => (GOk.plain (op_call Tryd.call32 (ref05_Secret_ok hr105) ⟨(opt 0 rfl), (opt 1 rfl), (opt 2 rfl), (opt 3 rfl), (opt 4 rfl), trivial⟩) rfl)⟩, ⟨rfl, fun β => (GOk.plain (op_call Tryd.call35 (ref05_Public_ok hr106) ⟨(opt 0 rfl), (opt 1 rfl), trivial⟩) rfl)⟩, ⟨rfl, fun β => (GOk.plain (op_call Tryd.call42 (ref03_Bytes_ok hr107) ⟨(opt 0 rfl), trivial⟩) rfl)⟩, ⟨rfl, fun β => (GOk.plain (op_append_str Tryd.underlying79 Tryd.underlying9 Tryd.type5 rfl rfl rfl rfl (opt 0 rfl) (opt 1 rfl) hv108) rfl)⟩, ⟨rfl, fun β => (GOk.drop _ (GOk.plain (op_assign (V := (eqVP (β 10))) (opt 0 rfl)) rfl))⟩, trivial⟩
          clear h
          intro β a w h
          change SatL c [.slot 0 (eqVP p_0), .slot 2 (intVP .i64 a_2), .slot 4 (lpVP p1 0), .slot 6 (lpVP p2 0), .slot 7 (eqVP (β 10)), .slot 8 (intVP .i64 x54), .slot 9 (intVP .i64 x90), .res (lb p1 24 [bytesCk 32 a_1]), .res (lb p2 24 [bytesCk 32 (List.replicate 32 0)]), .res (RLog_e p_0 r106.2), .res (acc (β 10) 5 1 bC (x92 ++ r107))] a w at h
          generalize β 10 = p109 at h
          clear β
          show Code.wp Tryd.prog _ _ a w
          refine region_do (n := 34) [.slot 16 100000 100000 (fun _ _ => (intVP .i64 x90)),
      .slot 17 100000 100000 (fun _ _ => (intVP .i64 (IntKind.wrap .i64 (x90 + 1)))),
      .slot 9 100000 100000 (fun _ _ => (intVP .i64 (IntKind.wrap .i64 (x90 + 1))))] [0, 1, 2] [⟨[6], [], [11], [], some 16⟩, ⟨[11], [], [12], [0], some 17⟩, ⟨[12], [6], [13], [0, 1], some 9⟩] [0, 1, 2, 3, 4, 5, 13, 7, 8, 9, 10] mixed hn hG h (by kernel_rfl) ?_ ?_
          · exact ⟨⟨rfl, fun β => (GOk.plain (op_move (opt 0 rfl)) rfl)⟩, ⟨rfl, fun β => (GOk.plain (op_bin bin_add (opt 0 rfl) (opc (ic (by decide)))) rfl)⟩, ⟨rfl, fun β => (GOk.drop _ (GOk.plain (op_assign (opt 0 rfl)) rfl))⟩, trivial⟩
          clear h
          intro β a w h
          change SatL c [.slot 0 (eqVP p_0), .slot 2 (intVP .i64 a_2), .slot 4 (lpVP p1 0), .slot 6 (lpVP p2 0), .slot 7 (eqVP p109), .slot 8 (intVP .i64 x54), .slot 9 (intVP .i64 (IntKind.wrap .i64 (x90 + 1))), .res (lb p1 24 [bytesCk 32 a_1]), .res (lb p2 24 [bytesCk 32 (List.replicate 32 0)]), .res (RLog_e p_0 r106.2), .res (acc p109 5 1 bC (x92 ++ r107))] a w at h
          clear β
          obtain rfl := Option.some.inj hF
          exact ⟨rfl, p109, h.sub [0, 1, 2, 3, 4, 5, 6, 9, 7, 8, 10] (by rfl)⟩
        · replace hF := ff_of hb104 hF
          replace h := h.sub [0, 1, 2, 3, 4, 5, 6, 8, 9, 10, 11] (by rfl)
          change SatL c [.slot 0 (eqVP p_0), .slot 2 (intVP .i64 a_2), .slot 4 (lpVP p1 0), .slot 6 (lpVP p2 0), .slot 7 (eqVP q93), .slot 8 (intVP .i64 x54), .slot 9 (intVP .i64 x90), .res (RLog_e p_0 x91), .res (lb p1 24 [bytesCk 32 a_1]), .res (lb p2 24 [bytesCk 32 (List.replicate 32 0)]), .res (acc q93 5 1 bC x92)] a w at h
          refine wp_exit ?_
          obtain rfl := Option.some.inj hF
          exact ⟨exit_ne _, rfl, q93, h.sub [0, 1, 2, 3, 4, 5, 7, 8, 9, 10] (by rfl)⟩
      · clear hl111
        intro e a w hq
        cases cr110 with
        | ret r112 =>
          obtain ⟨rfl, hq⟩ := hq
          obtain rfl := Option.some.inj hF
          exact ⟨ret_ne, rfl, hq⟩
        | next s113 =>
          obtain ⟨y114, y115, y116⟩ := s113
          obtain ⟨rfl, q93, h⟩ := hq
          change SatL c [.slot 0 (eqVP p_0), .slot 2 (intVP .i64 a_2), .slot 4 (lpVP p1 0), .slot 6 (lpVP p2 0), .slot 7 (eqVP q93), .slot 8 (intVP .i64 x54), .res (RLog_e p_0 y115), .res (lb p1 24 [bytesCk 32 a_1]), .res (lb p2 24 [bytesCk 32 (List.replicate 32 0)]), .res (acc q93 5 1 bC y116)] a w at h
          refine inBlock_at ?_
          show Code.wp Tryd.prog _ _ a w
          refine region_do (n := 34) [.slot 12 100000 100000 (fun _ _ => (intVP .i64 x54)),
      .slot 13 100000 100000 (fun _ _ => (intVP .i64 (IntKind.wrap .i64 (x54 + 1)))),
      .slot 8 100000 100000 (fun _ _ => (intVP .i64 (IntKind.wrap .i64 (x54 + 1))))] [0, 1, 2] [⟨[5], [], [10], [], some 12⟩, ⟨[10], [], [11], [0], some 13⟩, ⟨[11], [5], [12], [0, 1], some 8⟩] [0, 1, 2, 3, 4, 12, 6, 7, 8, 9] mixed hn hG h (by kernel_rfl) ?_ ?_
          · exact ⟨⟨rfl, fun β => (GOk.plain (op_move (opt 0 rfl)) rfl)⟩, ⟨rfl, fun β => (GOk.plain (op_bin bin_add (opt 0 rfl) (opc (ic (by decide)))) rfl)⟩, ⟨rfl, fun β => (GOk.drop _ (GOk.plain (op_assign (opt 0 rfl)) rfl))⟩, trivial⟩
          clear h
          intro β a w h
          change SatL c [.slot 0 (eqVP p_0), .slot 2 (intVP .i64 a_2), .slot 4 (lpVP p1 0), .slot 6 (lpVP p2 0), .slot 7 (eqVP q93), .slot 8 (intVP .i64 (IntKind.wrap .i64 (x54 + 1))), .res (RLog_e p_0 y115), .res (lb p1 24 [bytesCk 32 a_1]), .res (lb p2 24 [bytesCk 32 (List.replicate 32 0)]), .res (acc q93 5 1 bC y116)] a w at h
          clear β
          obtain rfl := Option.some.inj hF
          exact ⟨rfl, q93, h.sub [0, 1, 2, 3, 4, 5, 6, 7, 8, 9] (by rfl)⟩
    · replace hF := ff_of hb83 hF
      replace h := h.sub [0, 1, 2, 3, 4, 5, 7, 8, 9, 10] (by rfl)
      change SatL c [.slot 0 (eqVP p_0), .slot 2 (intVP .i64 a_2), .slot 4 (lpVP p1 0), .slot 6 (lpVP p2 0), .slot 7 (eqVP q57), .slot 8 (intVP .i64 x54), .res (RLog_e p_0 x55), .res (lb p1 24 [bytesCk 32 a_1]), .res (lb p2 24 [bytesCk 32 (List.replicate 32 0)]), .res (acc q57 5 1 bC x56)] a w at h
      refine wp_exit ?_
      obtain rfl := Option.some.inj hF
      exact ⟨exit_ne _, rfl, q57, h.sub [0, 3, 4, 6, 8, 9] (by rfl)⟩
  · clear hl118
    intro e a w hq
    cases cr117 with
    | ret r119 =>
      obtain ⟨rfl, hq⟩ := hq
      obtain rfl := Option.some.inj hF
      exact ⟨.inl rfl, hq⟩
    | next s120 =>
      obtain ⟨y121, y122, y123⟩ := s120
      obtain ⟨rfl, q57, h⟩ := hq
      change SatL c [.slot 0 (eqVP p_0), .slot 6 (lpVP p2 0), .slot 7 (eqVP q57), .res (RLog_e p_0 y122), .res (lb p2 24 [bytesCk 32 (List.replicate 32 0)]), .res (acc q57 5 1 bC y123)] a w at h
      refine inBlock_at ?_
      show Code.wp Tryd.prog _ _ a w
      refine wp_seq ?_
      obtain ⟨r124, hr124, hF⟩ := bind_some hF
      refine region_do (n := 34) [.slot 29 100000 100000 (fun _ _ => (eqVP p_0)),
      .slot 30 100000 100000 (fun _ _ => (eqVP q57)),
      .slot 31 100000 100000 (fun _ _ => (strVP y123)),
      .slot 32 100000 100000 (fun _ _ => (slVP strC [y123])),
      .slot 33 100000 100000 (fun _ _ => (aggVP [bytesCk 32 r124.1])),
      .res 100000 100000 (fun _ _ => (RLog_e p_0 r124.2)),
      .res 100000 100000 (fun _ _ => (lb p2 24 [bytesCk 32 r124.1]))] [0, 1, 2, 3, 4, 4, 5] [⟨[0], [], [6], [], some 29⟩, ⟨[2], [], [7], [0], some 30⟩, ⟨[7, 5], [], [8], [0, 1], some 31⟩, ⟨[8], [], [9], [0, 1, 2], some 32⟩, ⟨[6, 9], [3], [10, 11], [0, 1, 2, 3], some 33⟩, ⟨[1, 10], [4], [12], [0, 1, 2, 3, 4], none⟩] [1, 12, 11] mixed hn hG h (by kernel_rfl) ?_ ?_
      · exact ⟨⟨rfl, fun β => (GOk.plain (op_move (opt 0 rfl)) rfl)⟩, ⟨rfl, fun β => (GOk.plain (op_move (opt 0 rfl)) rfl)⟩, ⟨rfl, fun β => (GOk.plain (op_conv_sl_str Tryd.underlying79 Tryd.underlying5 Tryd.underlying9 (opacc 0 1 rfl rfl)) rfl)⟩, ⟨rfl, fun β => (GOk.plain (op_lit (xs := [.tmp 31]) (ys := [y123]) _ rfl Tryd.underlying22 Tryd.sizeOf9 Tryd.zeroValue9 rfl rfl (by decide) (by decide) ⟨⟨_, (opt 0 rfl), (cells_one (one_str _))⟩, trivial⟩ lens_strC) rfl)⟩, ⟨rfl, fun β => (GOk.plain (op_call Tryd.call20 (ref04_Log_Of_ok hr124) ⟨(opt 0 rfl), (opc (ic (by decide))), (opt 1 rfl), trivial⟩) rfl)⟩, ⟨rfl, fun β => (GOk.plain (op_store_lb [] [bytesCk 32 (List.replicate 32 0)] [] [bytesCk 32 r124.1] Tryd.sizeOf24 (opt 0 rfl) (opt 1 rfl) (cells_agg _) rfl rfl rfl) rfl)⟩, trivial⟩
      clear h
      intro β a w h
      change SatL c [.slot 6 (lpVP p2 0), .res (lb p2 24 [bytesCk 32 r124.1]), .res (RLog_e p_0 r124.2)] a w at h
      clear β
      show Code.wp Tryd.prog _ _ a w
      refine wp_ret ?_
      obtain rfl := Option.some.inj hF
      exact ⟨.inl rfl, ret1 h Tryd.results28 (r_cell 0 1 rfl rfl Tryd.isAgg24 Tryd.sizeOf24 rfl) [2] [(RLog_e p_0 r124.2)] rfl rfl rfl⟩

def ref05_Opened.j2 (x46 : Int) (r75 : (List UInt8) × (Option O_RLog)) (x90 : List (UInt8)) : Option (Flow ((List UInt8) × Bool × (Option O_RLog)) (Int × (Option O_RLog) × (List (UInt8)))) := some (.cont (IntKind.wrap .i64 (x46 + 1), r75.2, x90))
def ref05_Opened.b1 (a_1 : List UInt8) (a_2 : List (List UInt8)) (a_3 : List (List UInt8)) (x46 : Int) (x47 : Option O_RLog) (x48 : List (UInt8)) : Option (Flow ((List UInt8) × Bool × (Option O_RLog)) (Int × (Option O_RLog) × (List (UInt8)))) := (if (decide (x46 < (32 : Int))) = true then (if (0 : Int) ≤ x46 ∧ x46 < a_2.length then ((ref05_Public x47 (a_2.getD x46.toNat default)).bind fun r75 => ((ref03_Bytes r75.1).bind fun r76 => ((ref05_Bit a_1 x46).bind fun r77 => (if (decide (r77 = (0 : Int))) = true then (if x48.length + r76.length ≤ mxl ∧ (x48.length + r76.length) * 1 ≤ 140737488355328 then (if (0 : Int) ≤ x46 ∧ x46 < a_3.length then ((ref03_Bytes (a_3.getD x46.toNat default)).bind fun r96 => (if (x48 ++ r76).length + r96.length ≤ mxl ∧ ((x48 ++ r76).length + r96.length) * 1 ≤ 140737488355328 then ref05_Opened.j2 x46 r75 ((x48 ++ r76) ++ r96) else none)) else none) else none) else (if (0 : Int) ≤ x46 ∧ x46 < a_3.length then ((ref03_Bytes (a_3.getD x46.toNat default)).bind fun r100 => (if x48.length + r100.length ≤ mxl ∧ (x48.length + r100.length) * 1 ≤ 140737488355328 then (if (x48 ++ r100).length + r76.length ≤ mxl ∧ ((x48 ++ r100).length + r76.length) * 1 ≤ 140737488355328 then ref05_Opened.j2 x46 r75 ((x48 ++ r100) ++ r76) else none) else none)) else none))))) else none) else some (.brk (x46, x47, x48)))
def ref05_Opened.j1 (L_0 : Option O_RLog) (a_1 : List UInt8) (a_2 : List (List UInt8)) (a_3 : List (List UInt8)) (x3 : Bool) : Option ((List UInt8) × Bool × (Option O_RLog)) := (if x3 = true then some ((List.replicate 32 0), false, L_0) else ((loopN (fun s : Int × (Option O_RLog) × (List (UInt8)) => ref05_Opened.b1 a_1 a_2 a_3 s.1 s.2.1 s.2.2) ((32 - 0 : Int).toNat + 2) (0, L_0, [])).bind fun cr => match cr with | .ret r => some r | .next (y109, y110, y111) => ((ref04_Log_Of y110 3 [y111]).bind fun r112 => some (r112.1, true, r112.2))))
def ref05_Opened (L_0 : Option O_RLog) (a_1 : List UInt8) (a_2 : List (List UInt8)) (a_3 : List (List UInt8)) : Option ((List UInt8) × Bool × (Option O_RLog)) := (if (!decide ((a_2.length : Int) = (32 : Int))) = true then ref05_Opened.j1 L_0 a_1 a_2 a_3 true else ref05_Opened.j1 L_0 a_1 a_2 a_3 (!decide ((a_3.length : Int) = (32 : Int))))
theorem ref05_Opened_ok {p_0 : Value} {L_0 : Option O_RLog} {a_1 : List UInt8} {a_2 : List (List UInt8)} {a_3 : List (List UInt8)} {r : (List UInt8) × Bool × (Option O_RLog)} (hF : ref05_Opened L_0 a_1 a_2 a_3 = some r) : CallOk Tryd.prog KG 30 [(eqVP p_0), (aggVP [bytesCk 32 a_1]), (slVP (dC 32) a_2), (slVP (dC 32) a_3)] [(RLog_e p_0 L_0)] (fun _ => [RLog_e p_0 r.2.2]) (tupVP [(aggVP [bytesCk 32 r.1]), (boolVP r.2.1)]) := by
  refine CallOk.intro 62 Tryd.func30 rfl Tryd.ntmps30 (Nat.le_of_ble_eq_true rfl) ?_
  intro c a w hG hn h
  unfold ref05_Opened at hF
  change SatL c [.slot 0 (eqVP p_0), .slot 1 (aggVP [bytesCk 32 a_1]), .slot 2 (slVP (dC 32) a_2), .slot 3 (slVP (dC 32) a_3), .res (RLog_e p_0 L_0)] a w at h
  refine wp_seq ?_
  refine region_do (n := 62) [.slot 5 0 100000 (fun v1_ _ => (lpVP v1_ 0)),
      .res 0 100000 (fun v1_ _ => (lb (v1_) 24 [bytesCk 32 a_1])),
      .slot 8 1 100000 (fun v1_ _ => (lpVP v1_ 0)),
      .res 1 100000 (fun v1_ _ => (lb (v1_) 24 [bytesCk 32 (List.replicate 32 0)])),
      .slot 9 100000 100000 (fun _ _ => (boolVP false))] [0, 0, 1, 1, 2] [⟨[1], [], [5, 6], [], some 5⟩, ⟨[], [], [7, 8], [0], some 8⟩, ⟨[], [], [9], [0, 1], some 9⟩] [0, 2, 3, 5, 7, 4, 6, 8] mixed hn hG h (by kernel_rfl) ?_ ?_
  · exact ⟨⟨rfl, fun β => (GOk.plain (op_box (opt 0 rfl) (cells_agg _)) rfl)⟩, ⟨rfl, fun β => (GOk.plain (op_alloc Tryd.zeroValue24 z24) rfl)⟩, ⟨rfl, fun β => (GOk.plain (op_assign (opc (bc _))) rfl)⟩, trivial⟩
  clear h
  intro β a w h
  change SatL c [.slot 0 (eqVP p_0), .slot 2 (slVP (dC 32) a_2), .slot 3 (slVP (dC 32) a_3), .slot 5 (lpVP (β 0) 0), .slot 8 (lpVP (β 1) 0), .res (RLog_e p_0 L_0), .res (lb (β 0) 24 [bytesCk 32 a_1]), .res (lb (β 1) 24 [bytesCk 32 (List.replicate 32 0)])] a w at h
  generalize β 0 = p1 at h
  generalize β 1 = p2 at h
  clear β
  show Code.wp Tryd.prog _ _ a w
  refine wp_seq ?_
  refine wp_seq ?_
  refine wp_cut (fun a w => ∃ (x3 : Bool), ref05_Opened.j1 L_0 a_1 a_2 a_3 x3 = some r ∧ SatL c [.slot 0 (eqVP p_0), .slot 2 (slVP (dC 32) a_2), .slot 3 (slVP (dC 32) a_3), .slot 5 (lpVP p1 0), .slot 8 (lpVP p2 0), .slot 20 (boolVP x3), .res (RLog_e p_0 L_0), .res (lb p1 24 [bytesCk 32 a_1]), .res (lb p2 24 [bytesCk 32 (List.replicate 32 0)])] a w) ?_ ?_
  · rcases Bool.eq_false_or_eq_true (!decide ((a_2.length : Int) = (32 : Int))) with hb113 | hb113
    · replace hF := tt_of hb113 hF
      refine region_do (n := 62) [.slot 13 100000 100000 (fun _ _ => (slVP (dC 32) a_2)),
      .slot 14 100000 100000 (fun _ _ => (intVP .i64 (a_2.length : Int))),
      .slot 15 100000 100000 (fun _ _ => (boolVP (!decide ((a_2.length : Int) = (32 : Int))))),
      .slot 16 100000 100000 (fun _ _ => (boolVP (!decide ((a_2.length : Int) = (32 : Int))))),
      .slot 17 100000 100000 (fun _ _ => (eqVP undef)),
      .slot 18 100000 100000 (fun _ _ => (eqVP undef)),
      .slot 19 100000 100000 (fun _ _ => (eqVP undef)),
      .slot 20 100000 100000 (fun _ _ => (boolVP true))] [0, 1, 2, 3, 4, 5, 6, 7] [⟨[1], [], [8], [], some 13⟩, ⟨[8], [], [9], [0], some 14⟩, ⟨[9], [], [10], [0, 1], some 15⟩, ⟨[10], [], [11], [0, 1, 2], some 16⟩, ⟨[11], [], [12], [0, 1, 2, 3], some 17⟩, ⟨[11], [], [13], [0, 1, 2, 3, 4], some 18⟩, ⟨[11], [], [14], [0, 1, 2, 3, 4, 5], some 19⟩, ⟨[11], [], [15], [0, 1, 2, 3, 4, 5, 6], some 20⟩] [0, 1, 2, 3, 4, 15, 5, 6, 7] mixed hn hG h (by kernel_rfl) ?_ ?_
      · exact ⟨⟨rfl, fun β => (GOk.plain (op_move (opt 0 rfl)) rfl)⟩, ⟨rfl, fun β => (GOk.plain (op_len_sl Tryd.underlying46 (opt 0 rfl)) rfl)⟩, ⟨rfl, fun β => (GOk.plain (op_bin bin_neq (opt 0 rfl) (opc (ic (by decide)))) rfl)⟩, ⟨rfl, fun β => (GOk.plain (op_move (opt 0 rfl)) rfl)⟩, ⟨rfl, fun β => (GOk.off_v (want := false) hb113 rfl rfl rfl rfl)⟩, ⟨rfl, fun β => (GOk.off_v (want := false) hb113 rfl rfl rfl rfl)⟩, ⟨rfl, fun β => (GOk.off_v (want := false) hb113 rfl rfl rfl rfl)⟩, ⟨rfl, fun β => (GOk.plain (op_pick_t hb113 (opt 0 rfl) (opc (bc _))) rfl)⟩, trivial⟩
      clear h
      intro β a w h
      change SatL c [.slot 0 (eqVP p_0), .slot 2 (slVP (dC 32) a_2), .slot 3 (slVP (dC 32) a_3), .slot 5 (lpVP p1 0), .slot 8 (lpVP p2 0), .slot 20 (boolVP true), .res (RLog_e p_0 L_0), .res (lb p1 24 [bytesCk 32 a_1]), .res (lb p2 24 [bytesCk 32 (List.replicate 32 0)])] a w at h
      clear β
      exact ⟨true, hF, h.sub [0, 1, 2, 3, 4, 5, 6, 7, 8] (by rfl)⟩
    · replace hF := ff_of hb113 hF
      refine region_do (n := 62) [.slot 13 100000 100000 (fun _ _ => (slVP (dC 32) a_2)),
      .slot 14 100000 100000 (fun _ _ => (intVP .i64 (a_2.length : Int))),
      .slot 15 100000 100000 (fun _ _ => (boolVP (!decide ((a_2.length : Int) = (32 : Int))))),
      .slot 16 100000 100000 (fun _ _ => (boolVP (!decide ((a_2.length : Int) = (32 : Int))))),
      .slot 17 100000 100000 (fun _ _ => (slVP (dC 32) a_3)),
      .slot 18 100000 100000 (fun _ _ => (intVP .i64 (a_3.length : Int))),
      .slot 19 100000 100000 (fun _ _ => (boolVP (!decide ((a_3.length : Int) = (32 : Int))))),
      .slot 20 100000 100000 (fun _ _ => (boolVP (!decide ((a_3.length : Int) = (32 : Int)))))] [0, 1, 2, 3, 4, 5, 6, 7] [⟨[1], [], [8], [], some 13⟩, ⟨[8], [], [9], [0], some 14⟩, ⟨[9], [], [10], [0, 1], some 15⟩, ⟨[10], [], [11], [0, 1, 2], some 16⟩, ⟨[11, 2], [], [12], [0, 1, 2, 3], some 17⟩, ⟨[11, 12], [], [13], [0, 1, 2, 3, 4], some 18⟩, ⟨[11, 13], [], [14], [0, 1, 2, 3, 4, 5], some 19⟩, ⟨[11, 14], [], [15], [0, 1, 2, 3, 4, 5, 6], some 20⟩] [0, 1, 2, 3, 4, 15, 5, 6, 7] mixed hn hG h (by kernel_rfl) ?_ ?_
      · exact ⟨⟨rfl, fun β => (GOk.plain (op_move (opt 0 rfl)) rfl)⟩, ⟨rfl, fun β => (GOk.plain (op_len_sl Tryd.underlying46 (opt 0 rfl)) rfl)⟩, ⟨rfl, fun β => (GOk.plain (op_bin bin_neq (opt 0 rfl) (opc (ic (by decide)))) rfl)⟩, ⟨rfl, fun β => (GOk.plain (op_move (opt 0 rfl)) rfl)⟩, ⟨rfl, fun β => (GOk.on_eq hb113 rfl rfl rfl (op_move (opt 0 rfl)))⟩, ⟨rfl, fun β => (GOk.on_eq hb113 rfl rfl rfl (op_len_sl Tryd.underlying46 (opt 0 rfl)))⟩, ⟨rfl, fun β => (GOk.on_eq hb113 rfl rfl rfl (op_bin bin_neq (opt 0 rfl) (opc (ic (by decide)))))⟩, ⟨rfl, fun β => (GOk.plain (op_pick_f hb113 (opt 0 rfl) (opt 1 rfl)) rfl)⟩, trivial⟩
      clear h
      intro β a w h
      change SatL c [.slot 0 (eqVP p_0), .slot 2 (slVP (dC 32) a_2), .slot 3 (slVP (dC 32) a_3), .slot 5 (lpVP p1 0), .slot 8 (lpVP p2 0), .slot 20 (boolVP (!decide ((a_3.length : Int) = (32 : Int)))), .res (RLog_e p_0 L_0), .res (lb p1 24 [bytesCk 32 a_1]), .res (lb p2 24 [bytesCk 32 (List.replicate 32 0)])] a w at h
      clear β
      exact ⟨!decide ((a_3.length : Int) = (32 : Int)), hF, h.sub [0, 1, 2, 3, 4, 5, 6, 7, 8] (by rfl)⟩
  · clear h hF
    rintro a w ⟨x3, hF, h⟩
    unfold ref05_Opened.j1 at hF
    show Code.wp Tryd.prog _ _ a w
    refine cond_L h 5 rfl (fun hb4 => ?_) (fun hb4 => ?_)
    · replace hF := tt_of hb4 hF
      replace h := h.sub [4, 6, 8] (by rfl)
      change SatL c [.slot 8 (lpVP p2 0), .res (RLog_e p_0 L_0), .res (lb p2 24 [bytesCk 32 (List.replicate 32 0)])] a w at h
      refine wp_seq ?_
      refine region_do (n := 62) [.slot 21 100000 100000 (fun _ _ => (aggVP [bytesCk 32 (List.replicate 32 0)])),
      .res 100000 100000 (fun _ _ => (lb p2 24 [bytesCk 32 (List.replicate 32 0)])),
      .slot 9 100000 100000 (fun _ _ => (boolVP false))] [0, 1, 2] [⟨[], [], [3], [], some 21⟩, ⟨[0, 3], [2], [4], [0], none⟩, ⟨[], [], [5], [0, 1], some 9⟩] [0, 5, 1, 4] mixed hn hG h (by kernel_rfl) ?_ ?_
      · exact ⟨⟨rfl, fun β => (GOk.plain (build0 Tryd.zeroValue24 Tryd.underlying24 Tryd.sizeOf5 z24) rfl)⟩, ⟨rfl, fun β => (GOk.plain (op_store_lb [] [bytesCk 32 (List.replicate 32 0)] [] [bytesCk 32 (List.replicate 32 0)] Tryd.sizeOf24 (opt 0 rfl) (opt 1 rfl) (cells_agg _) rfl rfl rfl) rfl)⟩, ⟨rfl, fun β => (GOk.plain (op_assign (opc (bc _))) rfl)⟩, trivial⟩
      clear h
      intro β a w h
      change SatL c [.slot 8 (lpVP p2 0), .slot 9 (boolVP false), .res (RLog_e p_0 L_0), .res (lb p2 24 [bytesCk 32 (List.replicate 32 0)])] a w at h
      clear β
      show Code.wp Tryd.prog _ _ a w
      refine wp_ret ?_
      obtain rfl := Option.some.inj hF
      exact ⟨.inl rfl, retn h (rs := [.cell 8 24, .tmp 9]) (Vs := [(aggVP [bytesCk 32 (List.replicate 32 0)]), (boolVP false)]) Tryd.results30 (by decide) ⟨(r_cell 0 3 rfl rfl Tryd.isAgg24 Tryd.sizeOf24 rfl), (r_tmp 1 rfl), trivial⟩ [2] [(RLog_e p_0 L_0)] rfl rfl rfl⟩
    · replace hF := ff_of hb4 hF
      replace h := h.sub [0, 1, 2, 3, 4, 6, 7, 8] (by rfl)
      change SatL c [.slot 0 (eqVP p_0), .slot 2 (slVP (dC 32) a_2), .slot 3 (slVP (dC 32) a_3), .slot 5 (lpVP p1 0), .slot 8 (lpVP p2 0), .res (RLog_e p_0 L_0), .res (lb p1 24 [bytesCk 32 a_1]), .res (lb p2 24 [bytesCk 32 (List.replicate 32 0)])] a w at h
      refine wp_skip ?_
      show Code.wp Tryd.prog _ _ a w
      refine wp_seq ?_
      refine region_do (n := 62) [.slot 10 100000 100000 (fun _ _ => (eqVP (.slice none 0 0)))] [0] [⟨[], [], [8], [], some 10⟩] [0, 1, 2, 3, 4, 8, 5, 6, 7] mixed hn hG h (by kernel_rfl) ?_ ?_
      · exact ⟨⟨rfl, fun β => (GOk.plain (op_assign (opc (ec _))) rfl)⟩, trivial⟩
      clear h
      intro β a w h
      change SatL c [.slot 0 (eqVP p_0), .slot 2 (slVP (dC 32) a_2), .slot 3 (slVP (dC 32) a_3), .slot 5 (lpVP p1 0), .slot 8 (lpVP p2 0), .slot 10 (eqVP (.slice none 0 0)), .res (RLog_e p_0 L_0), .res (lb p1 24 [bytesCk 32 a_1]), .res (lb p2 24 [bytesCk 32 (List.replicate 32 0)])] a w at h
      clear β
      show Code.wp Tryd.prog _ _ a w
      refine wp_seq ?_
      refine wp_seq ?_
      refine region_do (n := 62) [.slot 11 100000 100000 (fun _ _ => (intVP .i64 0))] [0] [⟨[], [], [9], [], some 11⟩] [0, 1, 2, 3, 4, 5, 9, 6, 7, 8] mixed hn hG h (by kernel_rfl) ?_ ?_
      · exact ⟨⟨rfl, fun β => (GOk.plain (op_assign (opc (ic (by decide)))) rfl)⟩, trivial⟩
      clear h
      intro β a w h
      change SatL c [.slot 0 (eqVP p_0), .slot 2 (slVP (dC 32) a_2), .slot 3 (slVP (dC 32) a_3), .slot 5 (lpVP p1 0), .slot 8 (lpVP p2 0), .slot 10 (eqVP (.slice none 0 0)), .slot 11 (intVP .i64 0), .res (RLog_e p_0 L_0), .res (lb p1 24 [bytesCk 32 a_1]), .res (lb p2 24 [bytesCk 32 (List.replicate 32 0)])] a w at h
      clear β
      show Code.wp Tryd.prog _ _ a w
      refine wp_block ?_
      obtain ⟨q26, h⟩ : ∃ q26 : Value, SatL c [.slot 0 (eqVP p_0), .slot 2 (slVP (dC 32) a_2), .slot 3 (slVP (dC 32) a_3), .slot 5 (lpVP p1 0), .slot 8 (lpVP p2 0), .slot 10 (eqVP q26), .slot 11 (intVP .i64 0), .res (RLog_e p_0 L_0), .res (lb p1 24 [bytesCk 32 a_1]), .res (lb p2 24 [bytesCk 32 (List.replicate 32 0)]), .res (acc q26 5 1 bC [])] a w := ⟨.slice none 0 0, (h.nilacc 5 1 bC).sub [0, 1, 2, 3, 4, 5, 6, 7, 8, 9, 10] (by rfl)⟩
      obtain ⟨cr105, hl106, hF⟩ := bind_some hF
      refine wp_mono (wp_loopN (R := (List UInt8) × Bool × (Option O_RLog)) (S := Int × (Option O_RLog) × (List (UInt8))) (fun s a w => ∃ q49 : Value, SatL c [.slot 0 (eqVP p_0), .slot 2 (slVP (dC 32) a_2), .slot 3 (slVP (dC 32) a_3), .slot 5 (lpVP p1 0), .slot 8 (lpVP p2 0), .slot 10 (eqVP q49), .slot 11 (intVP .i64 s.1), .res (RLog_e p_0 s.2.1), .res (lb p1 24 [bytesCk 32 a_1]), .res (lb p2 24 [bytesCk 32 (List.replicate 32 0)]), .res (acc q49 5 1 bC s.2.2)] a w) (fun res e a w => match res with | .next s => e = .exit 0 ∧ ∃ q49 : Value, SatL c [.slot 0 (eqVP p_0), .slot 8 (lpVP p2 0), .slot 10 (eqVP q49), .res (RLog_e p_0 s.2.1), .res (lb p2 24 [bytesCk 32 (List.replicate 32 0)]), .res (acc q49 5 1 bC s.2.2)] a w | .ret r => e = .ret ∧ RetOk Tryd.prog Tryd.f30 c (tupVP [(aggVP [bytesCk 32 r.1]), (boolVP r.2.1)]) (fun _ => [RLog_e p_0 r.2.2]) a w) ?_ _ (0, L_0, []) _ _ _ ⟨q26, (h.sub [0, 1, 2, 3, 4, 5, 6, 7, 8, 9, 10] (by rfl))⟩ hl106) ?_
      · clear hl106 hF h
        intro s a w o h hF
        obtain ⟨x46, x47, x48⟩ := s
        obtain ⟨q49, h⟩ := h
        change ref05_Opened.b1 a_1 a_2 a_3 x46 x47 x48 = some o at hF
        unfold ref05_Opened.b1 at hF
        change SatL c [.slot 0 (eqVP p_0), .slot 2 (slVP (dC 32) a_2), .slot 3 (slVP (dC 32) a_3), .slot 5 (lpVP p1 0), .slot 8 (lpVP p2 0), .slot 10 (eqVP q49), .slot 11 (intVP .i64 x46), .res (RLog_e p_0 x47), .res (lb p1 24 [bytesCk 32 a_1]), .res (lb p2 24 [bytesCk 32 (List.replicate 32 0)]), .res (acc q49 5 1 bC x48)] a w at h
        refine wp_seq ?_
        refine wp_seq ?_
        refine region_do (n := 62) [.slot 22 100000 100000 (fun _ _ => (intVP .i64 x46)),
      .slot 23 100000 100000 (fun _ _ => (boolVP (decide (x46 < (32 : Int)))))] [0, 1] [⟨[6], [], [11], [], some 22⟩, ⟨[11], [], [12], [0], some 23⟩] [0, 1, 2, 3, 4, 5, 6, 12, 7, 8, 9, 10] mixed hn hG h (by kernel_rfl) ?_ ?_
        · exact ⟨⟨rfl, fun β => (GOk.plain (op_move (opt 0 rfl)) rfl)⟩, ⟨rfl, fun β => (GOk.plain (op_bin bin_lss (opt 0 rfl) (opc (ic (by decide)))) rfl)⟩, trivial⟩
        clear h
        intro β a w h
        change SatL c [.slot 0 (eqVP p_0), .slot 2 (slVP (dC 32) a_2), .slot 3 (slVP (dC 32) a_3), .slot 5 (lpVP p1 0), .slot 8 (lpVP p2 0), .slot 10 (eqVP q49), .slot 11 (intVP .i64 x46), .slot 23 (boolVP (decide (x46 < (32 : Int)))), .res (RLog_e p_0 x47), .res (lb p1 24 [bytesCk 32 a_1]), .res (lb p2 24 [bytesCk 32 (List.replicate 32 0)]), .res (acc q49 5 1 bC x48)] a w at h
        clear β
        show Code.wp Tryd.prog _ _ a w
        refine cond_L h 7 rfl (fun hb73 => ?_) (fun hb73 => ?_)
        · replace hF := tt_of hb73 hF
          replace h := h.sub [0, 1, 2, 3, 4, 5, 6, 8, 9, 10, 11] (by rfl)
          change SatL c [.slot 0 (eqVP p_0), .slot 2 (slVP (dC 32) a_2), .slot 3 (slVP (dC 32) a_3), .slot 5 (lpVP p1 0), .slot 8 (lpVP p2 0), .slot 10 (eqVP q49), .slot 11 (intVP .i64 x46), .res (RLog_e p_0 x47), .res (lb p1 24 [bytesCk 32 a_1]), .res (lb p2 24 [bytesCk 32 (List.replicate 32 0)]), .res (acc q49 5 1 bC x48)] a w at h
          refine wp_skip ?_
          show Code.wp Tryd.prog _ _ a w
          refine wp_seq ?_
          refine wp_block ?_
          refine wp_seq ?_
          obtain ⟨hv74, hF⟩ := ite_some hF
          obtain ⟨r75, hr75, hF⟩ := bind_some hF
          obtain ⟨r76, hr76, hF⟩ := bind_some hF
          refine region_do (n := 62) [.slot 26 100000 100000 (fun _ _ => (eqVP p_0)),
      .slot 27 100000 100000 (fun _ _ => (slVP (dC 32) a_2)),
      .slot 28 100000 100000 (fun _ _ => (intVP .i64 x46)),
      .slot 29 100000 100000 (fun _ _ => (ppVP [bytesCk 32 (a_2.getD x46.toNat default)])),
      .slot 30 100000 100000 (fun _ _ => (aggVP [bytesCk 32 (a_2.getD x46.toNat default)])),
      .slot 31 100000 100000 (fun _ _ => (aggVP [bytesCk 32 r75.1])),
      .res 100000 100000 (fun _ _ => (RLog_e p_0 r75.2)),
      .slot 32 100000 100000 (fun _ _ => (strVP r76)),
      .slot 12 100000 100000 (fun _ _ => (strVP r76))] [0, 1, 2, 3, 4, 5, 5, 6, 7] [⟨[0], [], [11], [], some 26⟩, ⟨[1], [], [12], [0], some 27⟩, ⟨[6], [], [13], [0, 1], some 28⟩, ⟨[12, 13], [], [14], [0, 1, 2], some 29⟩, ⟨[14], [], [15], [0, 1, 2, 3], some 30⟩, ⟨[11, 15], [7], [16, 17], [0, 1, 2, 3, 4], some 31⟩, ⟨[16], [], [18], [0, 1, 2, 3, 4, 5], some 32⟩, ⟨[18], [], [19], [0, 1, 2, 3, 4, 5, 6], some 12⟩] [0, 1, 2, 3, 4, 5, 6, 19, 8, 9, 10, 17] mixed hn hG h (by kernel_rfl) ?_ ?_
          · exact ⟨⟨rfl, fun β => (GOk.plain (op_move (opt 0 rfl)) rfl)⟩, ⟨rfl, fun β => (GOk.plain (op_move (opt 0 rfl)) rfl)⟩, ⟨rfl, fun β => (GOk.plain (op_move (opt 0 rfl)) rfl)⟩, ⟨rfl, fun β => (GOk.plain (op_indexAddr_sl Tryd.underlying46 Tryd.sizeOf24 (lens_dC 32) (opt 0 rfl) (opt 1 rfl) hv74) rfl)⟩, ⟨rfl, fun β => (GOk.plain (op_load_pp [bytesCk 32 (a_2.getD x46.toNat default)] [] Tryd.isAgg24 Tryd.sizeOf24 (opt 0 rfl) rfl) rfl)⟩, ⟨rfl, fun β => (GOk.plain (op_call Tryd.call35 (ref05_Public_ok hr75) ⟨(opt 0 rfl), (opt 1 rfl), trivial⟩) rfl)⟩, ⟨rfl, fun β => (GOk.plain (op_call Tryd.call42 (ref03_Bytes_ok hr76) ⟨(opt 0 rfl), trivial⟩) rfl)⟩, ⟨rfl, fun β => (GOk.plain (op_assign (opt 0 rfl)) rfl)⟩, trivial⟩
          clear h
          intro β a w h
          change SatL c [.slot 0 (eqVP p_0), .slot 2 (slVP (dC 32) a_2), .slot 3 (slVP (dC 32) a_3), .slot 5 (lpVP p1 0), .slot 8 (lpVP p2 0), .slot 10 (eqVP q49), .slot 11 (intVP .i64 x46), .slot 12 (strVP r76), .res (lb p1 24 [bytesCk 32 a_1]), .res (lb p2 24 [bytesCk 32 (List.replicate 32 0)]), .res (acc q49 5 1 bC x48), .res (RLog_e p_0 r75.2)] a w at h
          clear β
          show Code.wp Tryd.prog _ _ a w
          refine wp_seq ?_
          obtain ⟨r77, hr77, hF⟩ := bind_some hF
          refine region_do (n := 62) [.slot 33 100000 100000 (fun _ _ => (aggVP [bytesCk 32 a_1])),
      .slot 34 100000 100000 (fun _ _ => (intVP .i64 x46)),
      .slot 35 100000 100000 (fun _ _ => (intVP .i64 r77)),
      .slot 36 100000 100000 (fun _ _ => (boolVP (decide (r77 = (0 : Int)))))] [0, 1, 2, 3] [⟨[3, 8], [], [12], [], some 33⟩, ⟨[6], [], [13], [0], some 34⟩, ⟨[12, 13], [], [14], [0, 1], some 35⟩, ⟨[14], [], [15], [0, 1, 2], some 36⟩] [0, 1, 2, 3, 4, 5, 6, 7, 15, 8, 9, 10, 11] mixed hn hG h (by kernel_rfl) ?_ ?_
          · exact ⟨⟨rfl, fun β => (GOk.plain (op_load_lb [] [bytesCk 32 a_1] [] 1 Tryd.isAgg24 Tryd.sizeOf24 (opt 0 rfl) rfl rfl rfl) rfl)⟩, ⟨rfl, fun β => (GOk.plain (op_move (opt 0 rfl)) rfl)⟩, ⟨rfl, fun β => (GOk.plain (op_call Tryd.call33 (ref05_Bit_ok hr77) ⟨(opt 0 rfl), (opt 1 rfl), trivial⟩) rfl)⟩, ⟨rfl, fun β => (GOk.plain (op_bin bin_eql (opt 0 rfl) (opc (ic (by decide)))) rfl)⟩, trivial⟩
          clear h
          intro β a w h
          change SatL c [.slot 0 (eqVP p_0), .slot 2 (slVP (dC 32) a_2), .slot 3 (slVP (dC 32) a_3), .slot 5 (lpVP p1 0), .slot 8 (lpVP p2 0), .slot 10 (eqVP q49), .slot 11 (intVP .i64 x46), .slot 12 (strVP r76), .slot 36 (boolVP (decide (r77 = (0 : Int)))), .res (lb p1 24 [bytesCk 32 a_1]), .res (lb p2 24 [bytesCk 32 (List.replicate 32 0)]), .res (acc q49 5 1 bC x48), .res (RLog_e p_0 r75.2)] a w at h
          clear β
          show Code.wp Tryd.prog _ _ a w
          refine wp_cut (fun a w => ∃ (x90 : List (UInt8)), ∃ q91 : Value, ref05_Opened.j2 x46 r75 x90 = some o ∧ SatL c [.slot 0 (eqVP p_0), .slot 2 (slVP (dC 32) a_2), .slot 3 (slVP (dC 32) a_3), .slot 5 (lpVP p1 0), .slot 8 (lpVP p2 0), .slot 10 (eqVP q91), .slot 11 (intVP .i64 x46), .res (lb p1 24 [bytesCk 32 a_1]), .res (lb p2 24 [bytesCk 32 (List.replicate 32 0)]), .res (RLog_e p_0 r75.2), .res (acc q91 5 1 bC x90)] a w) ?_ ?_
          · refine cond_L h 8 rfl (fun hb92 => ?_) (fun hb92 => ?_)
            · replace hF := tt_of hb92 hF
              replace h := h.sub [0, 1, 2, 3, 4, 5, 6, 7, 9, 10, 11, 12] (by rfl)
              change SatL c [.slot 0 (eqVP p_0), .slot 2 (slVP (dC 32) a_2), .slot 3 (slVP (dC 32) a_3), .slot 5 (lpVP p1 0), .slot 8 (lpVP p2 0), .slot 10 (eqVP q49), .slot 11 (intVP .i64 x46), .slot 12 (strVP r76), .res (lb p1 24 [bytesCk 32 a_1]), .res (lb p2 24 [bytesCk 32 (List.replicate 32 0)]), .res (acc q49 5 1 bC x48), .res (RLog_e p_0 r75.2)] a w at h
              refine wp_seq ?_
              obtain ⟨hv93, hF⟩ := ite_some hF
              refine region_do (n := 62) [.slot 37 100000 100000 (fun _ _ => (eqVP q49)),
      .slot 38 100000 100000 (fun _ _ => (strVP r76)),
      .slot 39 2 100000 (fun v1_ _ => (eqVP v1_)),
      .res 2 100000 (fun v1_ _ => (acc (v1_) 5 1 bC (x48 ++ r76))),
      .slot 10 2 100000 (fun v1_ _ => (eqVP v1_))] [0, 1, 2, 2, 3] [⟨[5], [], [12], [], some 37⟩, ⟨[7], [], [13], [0], some 38⟩, ⟨[12, 13], [10], [14, 15], [0, 1], some 39⟩, ⟨[14], [5], [16], [0, 1, 2], some 10⟩] [0, 1, 2, 3, 4, 16, 6, 8, 9, 11, 15] mixed hn hG h (by kernel_rfl) ?_ ?_
              · exact ⟨⟨rfl, fun β => (GOk.plain (op_move (opt 0 rfl)) rfl)⟩, ⟨rfl, fun β => (GOk.plain (op_move (opt 0 rfl)) rfl)⟩, ⟨rfl, fun β => (GOk.plain (op_append_str Tryd.underlying79 Tryd.underlying9 Tryd.type5 rfl rfl rfl rfl (opt 0 rfl) (opt 1 rfl) hv93) rfl)⟩, ⟨rfl, fun β => (GOk.drop _ (GOk.plain (op_assign (V := (eqVP (β 2))) (opt 0 rfl)) rfl))⟩, trivial⟩
              clear h
              intro β a w h
              change SatL c [.slot 0 (eqVP p_0), .slot 2 (slVP (dC 32) a_2), .slot 3 (slVP (dC 32) a_3), .slot 5 (lpVP p1 0), .slot 8 (lpVP p2 0), .slot 10 (eqVP (β 2)), .slot 11 (intVP .i64 x46), .res (lb p1 24 [bytesCk 32 a_1]), .res (lb p2 24 [bytesCk 32 (List.replicate 32 0)]), .res (RLog_e p_0 r75.2), .res (acc (β 2) 5 1 bC (x48 ++ r76))] a w at h
              generalize β 2 = p94 at h
              clear β
              show Code.wp Tryd.prog _ _ a w
              obtain ⟨hv95, hF⟩ := ite_some hF
              obtain ⟨r96, hr96, hF⟩ := bind_some hF
              obtain ⟨hv97, hF⟩ := ite_some hF
              refine region_do (n := 62) [.slot 40 100000 100000 (fun _ _ => (eqVP p94)),
      .slot 41 100000 100000 (fun _ _ => (slVP (dC 32) a_3)),
      .slot 42 100000 100000 (fun _ _ => (intVP .i64 x46)),
      .slot 43 100000 100000 (fun _ _ => (ppVP [bytesCk 32 (a_3.getD x46.toNat default)])),
      .slot 44 100000 100000 (fun _ _ => (aggVP [bytesCk 32 (a_3.getD x46.toNat default)])),
      .slot 45 100000 100000 (fun _ _ => (strVP r96)),
      .slot 46 6 100000 (fun v1_ _ => (eqVP v1_)),
      .res 6 100000 (fun v1_ _ => (acc (v1_) 5 1 bC ((x48 ++ r76) ++ r96))),
      .slot 10 6 100000 (fun v1_ _ => (eqVP v1_))] [0, 1, 2, 3, 4, 5, 6, 6, 7] [⟨[5], [], [11], [], some 40⟩, ⟨[2], [], [12], [0], some 41⟩, ⟨[6], [], [13], [0, 1], some 42⟩, ⟨[12, 13], [], [14], [0, 1, 2], some 43⟩, ⟨[14], [], [15], [0, 1, 2, 3], some 44⟩, ⟨[15], [], [16], [0, 1, 2, 3, 4], some 45⟩, ⟨[11, 16], [10], [17, 18], [0, 1, 2, 3, 4, 5], some 46⟩, ⟨[17], [5], [19], [0, 1, 2, 3, 4, 5, 6], some 10⟩] [0, 1, 2, 3, 4, 19, 6, 7, 8, 9, 18] mixed hn hG h (by kernel_rfl) ?_ ?_
              · exact ⟨⟨rfl, fun β => (GOk.plain (op_move (opt 0 rfl)) rfl)⟩, ⟨rfl, fun β => (GOk.plain (op_move (opt 0 rfl)) rfl)⟩, ⟨rfl, fun β => (GOk.plain (op_move (opt 0 rfl)) rfl)⟩, ⟨rfl, fun β => (GOk.plain (op_indexAddr_sl Tryd.underlying46 Tryd.sizeOf24 (lens_dC 32) (opt 0 rfl) (opt 1 rfl) hv95) rfl)⟩, ⟨rfl, fun β => (GOk.plain (op_load_pp [bytesCk 32 (a_3.getD x46.toNat default)] [] Tryd.isAgg24 Tryd.sizeOf24 (opt 0 rfl) rfl) rfl)⟩, ⟨rfl, fun β => (GOk.plain (op_call Tryd.call42 (ref03_Bytes_ok hr96) ⟨(opt 0 rfl), trivial⟩) rfl)⟩, ⟨rfl, fun β => (GOk.plain (op_append_str Tryd.underlying79 Tryd.underlying9 Tryd.type5 rfl rfl rfl rfl (opt 0 rfl) (opt 1 rfl) hv97) rfl)⟩, ⟨rfl, fun β => (GOk.drop _ (GOk.plain (op_assign (V := (eqVP (β 6))) (opt 0 rfl)) rfl))⟩, trivial⟩
              clear h
              intro β a w h
              change SatL c [.slot 0 (eqVP p_0), .slot 2 (slVP (dC 32) a_2), .slot 3 (slVP (dC 32) a_3), .slot 5 (lpVP p1 0), .slot 8 (lpVP p2 0), .slot 10 (eqVP (β 6)), .slot 11 (intVP .i64 x46), .res (lb p1 24 [bytesCk 32 a_1]), .res (lb p2 24 [bytesCk 32 (List.replicate 32 0)]), .res (RLog_e p_0 r75.2), .res (acc (β 6) 5 1 bC ((x48 ++ r76) ++ r96))] a w at h
              generalize β 6 = p98 at h
              clear β
              exact ⟨(x48 ++ r76) ++ r96, p98, hF, h.sub [0, 1, 2, 3, 4, 5, 6, 7, 8, 9, 10] (by rfl)⟩
            · replace hF := ff_of hb92 hF
              replace h := h.sub [0, 1, 2, 3, 4, 5, 6, 7, 9, 10, 11, 12] (by rfl)
              change SatL c [.slot 0 (eqVP p_0), .slot 2 (slVP (dC 32) a_2), .slot 3 (slVP (dC 32) a_3), .slot 5 (lpVP p1 0), .slot 8 (lpVP p2 0), .slot 10 (eqVP q49), .slot 11 (intVP .i64 x46), .slot 12 (strVP r76), .res (lb p1 24 [bytesCk 32 a_1]), .res (lb p2 24 [bytesCk 32 (List.replicate 32 0)]), .res (acc q49 5 1 bC x48), .res (RLog_e p_0 r75.2)] a w at h
              refine wp_seq ?_
              obtain ⟨hv99, hF⟩ := ite_some hF
              obtain ⟨r100, hr100, hF⟩ := bind_some hF
              obtain ⟨hv101, hF⟩ := ite_some hF
              refine region_do (n := 62) [.slot 47 100000 100000 (fun _ _ => (eqVP q49)),
      .slot 48 100000 100000 (fun _ _ => (slVP (dC 32) a_3)),
      .slot 49 100000 100000 (fun _ _ => (intVP .i64 x46)),
      .slot 50 100000 100000 (fun _ _ => (ppVP [bytesCk 32 (a_3.getD x46.toNat default)])),
      .slot 51 100000 100000 (fun _ _ => (aggVP [bytesCk 32 (a_3.getD x46.toNat default)])),
      .slot 52 100000 100000 (fun _ _ => (strVP r100)),
      .slot 53 6 100000 (fun v1_ _ => (eqVP v1_)),
      .res 6 100000 (fun v1_ _ => (acc (v1_) 5 1 bC (x48 ++ r100))),
      .slot 10 6 100000 (fun v1_ _ => (eqVP v1_))] [0, 1, 2, 3, 4, 5, 6, 6, 7] [⟨[5], [], [12], [], some 47⟩, ⟨[2], [], [13], [0], some 48⟩, ⟨[6], [], [14], [0, 1], some 49⟩, ⟨[13, 14], [], [15], [0, 1, 2], some 50⟩, ⟨[15], [], [16], [0, 1, 2, 3], some 51⟩, ⟨[16], [], [17], [0, 1, 2, 3, 4], some 52⟩, ⟨[12, 17], [10], [18, 19], [0, 1, 2, 3, 4, 5], some 53⟩, ⟨[18], [5], [20], [0, 1, 2, 3, 4, 5, 6], some 10⟩] [0, 1, 2, 3, 4, 20, 6, 7, 8, 9, 11, 19] mixed hn hG h (by kernel_rfl) ?_ ?_
              · exact ⟨⟨rfl, fun β => (GOk.plain (op_move (opt 0 rfl)) rfl)⟩, ⟨rfl, fun β => (GOk.plain (op_move (opt 0 rfl)) rfl)⟩, ⟨rfl, fun β => (GOk.plain (op_move (opt 0 rfl)) rfl)⟩, ⟨rfl, fun β => (GOk.plain (op_indexAddr_sl Tryd.underlying46 Tryd.sizeOf24 (lens_dC 32) (opt 0 rfl) (opt 1 rfl) hv99) rfl)⟩, ⟨rfl, fun β => (GOk.plain (op_load_pp [bytesCk 32 (a_3.getD x46.toNat default)] [] Tryd.isAgg24 Tryd.sizeOf24 (opt 0 rfl) rfl) rfl)⟩, ⟨rfl, fun β => (GOk.plain (op_call Tryd.call42 (ref03_Bytes_ok hr100) ⟨(opt 0 rfl), trivial⟩) rfl)⟩, ⟨rfl, fun β => (GOk.plain (op_append_str Tryd.underlying79 Tryd.underlying9 Tryd.type5 rfl rfl rfl rfl (opt 0 rfl) (opt 1 rfl) hv101) rfl)⟩, ⟨rfl, fun β => (GOk.drop _ (GOk.plain (op_assign (V := (eqVP (β 6))) (opt 0 rfl)) rfl))⟩, trivial⟩
              clear h
              intro β a w h
              change SatL c [.slot 0 (eqVP p_0), .slot 2 (slVP (dC 32) a_2), .slot 3 (slVP (dC 32) a_3), .slot 5 (lpVP p1 0), .slot 8 (lpVP p2 0), .slot 10 (eqVP (β 6)), .slot 11 (intVP .i64 x46), .slot 12 (strVP r76), .res (lb p1 24 [bytesCk 32 a_1]), .res (lb p2 24 [bytesCk 32 (List.replicate 32 0)]), .res (RLog_e p_0 r75.2), .res (acc (β 6) 5 1 bC (x48 ++ r100))] a w at h
              generalize β 6 = p102 at h
              clear β
              show Code.wp Tryd.prog _ _ a w
              obtain ⟨hv103, hF⟩ := ite_some hF
              refine region_do (n := 62) [.slot 54 100000 100000 (fun _ _ => (eqVP p102)),
      .slot 55 100000 100000 (fun _ _ => (strVP r76)),
      .slot 56 2 100000 (fun v1_ _ => (eqVP v1_)),
      .res 2 100000 (fun v1_ _ => (acc (v1_) 5 1 bC ((x48 ++ r100) ++ r76))),
      .slot 10 2 100000 (fun v1_ _ => (eqVP v1_))] [0, 1, 2, 2, 3] [⟨[5], [], [12], [], some 54⟩, ⟨[7], [], [13], [0], some 55⟩, ⟨[12, 13], [11], [14, 15], [0, 1], some 56⟩, ⟨[14], [5], [16], [0, 1, 2], some 10⟩] [0, 1, 2, 3, 4, 16, 6, 8, 9, 10, 15] mixed hn hG h (by kernel_rfl) ?_ ?_
              · exact ⟨⟨rfl, fun β => (GOk.plain (op_move (opt 0 rfl)) rfl)⟩, ⟨rfl, fun β => (GOk.plain (op_move (opt 0 rfl)) rfl)⟩, ⟨rfl, fun β => (GOk.plain (op_append_str Tryd.underlying79 Tryd.underlying9 Tryd.type5 rfl rfl rfl rfl (opt 0 rfl) (opt 1 rfl) hv103) rfl)⟩, ⟨rfl, fun β => (GOk.drop _ (GOk.plain (op_assign (V := (eqVP (β 2))) (opt 0 rfl)) rfl))⟩, trivial⟩
              clear h
              intro β a w h
              change SatL c [.slot 0 (eqVP p_0), .slot 2 (slVP (dC 32) a_2), .slot 3 (slVP (dC 32) a_3), .slot 5 (lpVP p1 0), .slot 8 (lpVP p2 0), .slot 10 (eqVP (β 2)), .slot 11 (intVP .i64 x46), .res (lb p1 24 [bytesCk 32 a_1]), .res (lb p2 24 [bytesCk 32 (List.replicate 32 0)]), .res (RLog_e p_0 r75.2), .res (acc (β 2) 5 1 bC ((x48 ++ r100) ++ r76))] a w at h
              generalize β 2 = p104 at h
              clear β
              exact ⟨(x48 ++ r100) ++ r76, p104, hF, h.sub [0, 1, 2, 3, 4, 5, 6, 7, 8, 9, 10] (by rfl)⟩
          · clear h hF
            rintro a w ⟨x90, q91, hF, h⟩
            unfold ref05_Opened.j2 at hF
            show Code.wp Tryd.prog _ _ a w
            refine region_do (n := 62) [.slot 24 100000 100000 (fun _ _ => (intVP .i64 x46)),
      .slot 25 100000 100000 (fun _ _ => (intVP .i64 (IntKind.wrap .i64 (x46 + 1)))),
      .slot 11 100000 100000 (fun _ _ => (intVP .i64 (IntKind.wrap .i64 (x46 + 1))))] [0, 1, 2] [⟨[6], [], [11], [], some 24⟩, ⟨[11], [], [12], [0], some 25⟩, ⟨[12], [6], [13], [0, 1], some 11⟩] [0, 1, 2, 3, 4, 5, 13, 7, 8, 9, 10] mixed hn hG h (by kernel_rfl) ?_ ?_
            · exact ⟨⟨rfl, fun β => (GOk.plain (op_move (opt 0 rfl)) rfl)⟩, ⟨rfl, fun β => (GOk.plain (op_bin bin_add (opt 0 rfl) (opc (ic (by decide)))) rfl)⟩, ⟨rfl, fun β => (GOk.drop _ (GOk.plain (op_assign (opt 0 rfl)) rfl))⟩, trivial⟩
            clear h
            intro β a w h
            change SatL c [.slot 0 (eqVP p_0), .slot 2 (slVP (dC 32) a_2), .slot 3 (slVP (dC 32) a_3), .slot 5 (lpVP p1 0), .slot 8 (lpVP p2 0), .slot 10 (eqVP q91), .slot 11 (intVP .i64 (IntKind.wrap .i64 (x46 + 1))), .res (lb p1 24 [bytesCk 32 a_1]), .res (lb p2 24 [bytesCk 32 (List.replicate 32 0)]), .res (RLog_e p_0 r75.2), .res (acc q91 5 1 bC x90)] a w at h
            clear β
            obtain rfl := Option.some.inj hF
            exact ⟨rfl, q91, h.sub [0, 1, 2, 3, 4, 5, 6, 9, 7, 8, 10] (by rfl)⟩
        · replace hF := ff_of hb73 hF
          replace h := h.sub [0, 1, 2, 3, 4, 5, 6, 8, 9, 10, 11] (by rfl)
          change SatL c [.slot 0 (eqVP p_0), .slot 2 (slVP (dC 32) a_2), .slot 3 (slVP (dC 32) a_3), .slot 5 (lpVP p1 0), .slot 8 (lpVP p2 0), .slot 10 (eqVP q49), .slot 11 (intVP .i64 x46), .res (RLog_e p_0 x47), .res (lb p1 24 [bytesCk 32 a_1]), .res (lb p2 24 [bytesCk 32 (List.replicate 32 0)]), .res (acc q49 5 1 bC x48)] a w at h
          refine wp_exit ?_
          obtain rfl := Option.some.inj hF
          exact ⟨exit_ne _, rfl, q49, h.sub [0, 4, 5, 7, 9, 10] (by rfl)⟩
      · clear hl106
        intro e a w hq
        cases cr105 with
        | ret r107 =>
          obtain ⟨rfl, hq⟩ := hq
          obtain rfl := Option.some.inj hF
          exact ⟨.inl rfl, hq⟩
        | next s108 =>
          obtain ⟨y109, y110, y111⟩ := s108
          obtain ⟨rfl, q49, h⟩ := hq
          change SatL c [.slot 0 (eqVP p_0), .slot 8 (lpVP p2 0), .slot 10 (eqVP q49), .res (RLog_e p_0 y110), .res (lb p2 24 [bytesCk 32 (List.replicate 32 0)]), .res (acc q49 5 1 bC y111)] a w at h
          refine inBlock_at ?_
          show Code.wp Tryd.prog _ _ a w
          refine wp_seq ?_
          obtain ⟨r112, hr112, hF⟩ := bind_some hF
          refine region_do (n := 62) [.slot 57 100000 100000 (fun _ _ => (eqVP p_0)),
      .slot 58 100000 100000 (fun _ _ => (eqVP q49)),
      .slot 59 100000 100000 (fun _ _ => (strVP y111)),
      .slot 60 100000 100000 (fun _ _ => (slVP strC [y111])),
      .slot 61 100000 100000 (fun _ _ => (aggVP [bytesCk 32 r112.1])),
      .res 100000 100000 (fun _ _ => (RLog_e p_0 r112.2)),
      .res 100000 100000 (fun _ _ => (lb p2 24 [bytesCk 32 r112.1])),
      .slot 9 100000 100000 (fun _ _ => (boolVP true))] [0, 1, 2, 3, 4, 4, 5, 6] [⟨[0], [], [6], [], some 57⟩, ⟨[2], [], [7], [0], some 58⟩, ⟨[7, 5], [], [8], [0, 1], some 59⟩, ⟨[8], [], [9], [0, 1, 2], some 60⟩, ⟨[6, 9], [3], [10, 11], [0, 1, 2, 3], some 61⟩, ⟨[1, 10], [4], [12], [0, 1, 2, 3, 4], none⟩, ⟨[], [], [13], [0, 1, 2, 3, 4, 5], some 9⟩] [1, 13, 12, 11] mixed hn hG h (by kernel_rfl) ?_ ?_
          · exact ⟨⟨rfl, fun β => (GOk.plain (op_move (opt 0 rfl)) rfl)⟩, ⟨rfl, fun β => (GOk.plain (op_move (opt 0 rfl)) rfl)⟩, ⟨rfl, fun β => (GOk.plain (op_conv_sl_str Tryd.underlying79 Tryd.underlying5 Tryd.underlying9 (opacc 0 1 rfl rfl)) rfl)⟩, ⟨rfl, fun β => (GOk.plain (op_lit (xs := [.tmp 59]) (ys := [y111]) _ rfl Tryd.underlying22 Tryd.sizeOf9 Tryd.zeroValue9 rfl rfl (by decide) (by decide) ⟨⟨_, (opt 0 rfl), (cells_one (one_str _))⟩, trivial⟩ lens_strC) rfl)⟩, ⟨rfl, fun β => (GOk.plain (op_call Tryd.call20 (ref04_Log_Of_ok hr112) ⟨(opt 0 rfl), (opc (ic (by decide))), (opt 1 rfl), trivial⟩) rfl)⟩, ⟨rfl, fun β => (GOk.plain (op_store_lb [] [bytesCk 32 (List.replicate 32 0)] [] [bytesCk 32 r112.1] Tryd.sizeOf24 (opt 0 rfl) (opt 1 rfl) (cells_agg _) rfl rfl rfl) rfl)⟩, ⟨rfl, fun β => (GOk.plain (op_assign (opc (bc _))) rfl)⟩, trivial⟩
          clear h
          intro β a w h
          change SatL c [.slot 8 (lpVP p2 0), .slot 9 (boolVP true), .res (lb p2 24 [bytesCk 32 r112.1]), .res (RLog_e p_0 r112.2)] a w at h
          clear β
          show Code.wp Tryd.prog _ _ a w
          refine wp_ret ?_
          obtain rfl := Option.some.inj hF
          exact ⟨.inl rfl, retn h (rs := [.cell 8 24, .tmp 9]) (Vs := [(aggVP [bytesCk 32 r112.1]), (boolVP true)]) Tryd.results30 (by decide) ⟨(r_cell 0 2 rfl rfl Tryd.isAgg24 Tryd.sizeOf24 rfl), (r_tmp 1 rfl), trivial⟩ [3] [(RLog_e p_0 r112.2)] rfl rfl rfl⟩

def ref05_Sign.j1 (x51 : Int) (x100 : Option O_RLog) (x101 : List (List UInt8)) (x103 : List (List UInt8)) : Option (Flow ((List (List UInt8)) × (List (List UInt8)) × (Option O_RLog)) (Int × (Option O_RLog) × (List (List UInt8)) × (List (List UInt8)))) := some (.cont (IntKind.wrap .i64 (x51 + 1), x100, x101, x103))
def ref05_Sign.b1 (a_1 : List UInt8) (a_2 : Int) (a_3 : List UInt8) (x51 : Int) (x52 : Option O_RLog) (x53 : List (List UInt8)) (x55 : List (List UInt8)) : Option (Flow ((List (List UInt8)) × (List (List UInt8)) × (Option O_RLog)) (Int × (Option O_RLog) × (List (List UInt8)) × (List (List UInt8)))) := (if (decide (x51 < (32 : Int))) = true then ((ref05_Secret x52 a_1 a_2 x51 0).bind fun r85 => ((ref05_Secret r85.2 a_1 a_2 x51 1).bind fun r86 => ((ref05_Bit a_3 x51).bind fun r89 => (if (decide (r89 = (0 : Int))) = true then (if x53.length + [r85.1].length ≤ mxl ∧ (x53.length + [r85.1].length) * 32 ≤ 140737488355328 then ((ref05_Public r86.2 r86.1).bind fun r108 => (if x55.length + [r108.1].length ≤ mxl ∧ (x55.length + [r108.1].length) * 32 ≤ 140737488355328 then ref05_Sign.j1 x51 r108.2 (x53 ++ [r85.1]) (x55 ++ [r108.1]) else none)) else none) else (if x53.length + [r86.1].length ≤ mxl ∧ (x53.length + [r86.1].length) * 32 ≤ 140737488355328 then ((ref05_Public r86.2 r85.1).bind fun r113 => (if x55.length + [r113.1].length ≤ mxl ∧ (x55.length + [r113.1].length) * 32 ≤ 140737488355328 then ref05_Sign.j1 x51 r113.2 (x53 ++ [r86.1]) (x55 ++ [r113.1]) else none)) else none))))) else some (.brk (x51, x52, x53, x55)))
def ref05_Sign (L_0 : Option O_RLog) (a_1 : List UInt8) (a_2 : Int) (a_3 : List UInt8) : Option ((List (List UInt8)) × (List (List UInt8)) × (Option O_RLog)) := ((loopN (fun s : Int × (Option O_RLog) × (List (List UInt8)) × (List (List UInt8)) => ref05_Sign.b1 a_1 a_2 a_3 s.1 s.2.1 s.2.2.1 s.2.2.2) ((32 - 0 : Int).toNat + 2) (0, L_0, [], [])).bind fun cr => match cr with | .ret r => some r | .next (y120, y121, y122, y123) => some (y122, y123, y121))
theorem ref05_Sign_ok {p_0 : Value} {L_0 : Option O_RLog} {a_1 : List UInt8} {a_2 : Int} {a_3 : List UInt8} {r : (List (List UInt8)) × (List (List UInt8)) × (Option O_RLog)} (hF : ref05_Sign L_0 a_1 a_2 a_3 = some r) : CallOk Tryd.prog KG 36 [(eqVP p_0), (aggVP [bytesCk 32 a_1]), (intVP .i64 a_2), (aggVP [bytesCk 32 a_3])] [(RLog_e p_0 L_0)] (fun _ => [RLog_e p_0 r.2.2]) (tupVP [(slVP (dC 32) r.1), (slVP (dC 32) r.2.1)]) := by
  refine CallOk.intro 55 Tryd.func36 rfl Tryd.ntmps36 (Nat.le_of_ble_eq_true rfl) ?_
  intro c a w hG hn h
  unfold ref05_Sign at hF
  change SatL c [.slot 0 (eqVP p_0), .slot 1 (aggVP [bytesCk 32 a_1]), .slot 2 (intVP .i64 a_2), .slot 3 (aggVP [bytesCk 32 a_3]), .res (RLog_e p_0 L_0)] a w at h
  refine wp_seq ?_
  refine region_do (n := 55) [.slot 5 0 100000 (fun v1_ _ => (lpVP v1_ 0)),
      .res 0 100000 (fun v1_ _ => (lb (v1_) 24 [bytesCk 32 a_1])),
      .slot 7 1 100000 (fun v1_ _ => (lpVP v1_ 0)),
      .res 1 100000 (fun v1_ _ => (lb (v1_) 24 [bytesCk 32 a_3])),
      .slot 8 100000 100000 (fun _ _ => (eqVP (.slice none 0 0))),
      .slot 9 100000 100000 (fun _ _ => (eqVP (.slice none 0 0)))] [0, 0, 1, 1, 2, 3] [⟨[1], [], [5, 6], [], some 5⟩, ⟨[3], [], [7, 8], [0], some 7⟩, ⟨[], [], [9], [0, 1], some 8⟩, ⟨[], [], [10], [0, 1, 2], some 9⟩] [0, 2, 5, 7, 4, 6, 8] mixed hn hG h (by kernel_rfl) ?_ ?_
  · exact ⟨⟨rfl, fun β => (GOk.plain (op_box (opt 0 rfl) (cells_agg _)) rfl)⟩, ⟨rfl, fun β => (GOk.plain (op_box (opt 0 rfl) (cells_agg _)) rfl)⟩, ⟨rfl, fun β => (GOk.plain (op_assign (opc (ec _))) rfl)⟩, ⟨rfl, fun β => (GOk.plain (op_assign (opc (ec _))) rfl)⟩, trivial⟩
  clear h
  intro β a w h
  change SatL c [.slot 0 (eqVP p_0), .slot 2 (intVP .i64 a_2), .slot 5 (lpVP (β 0) 0), .slot 7 (lpVP (β 1) 0), .res (RLog_e p_0 L_0), .res (lb (β 0) 24 [bytesCk 32 a_1]), .res (lb (β 1) 24 [bytesCk 32 a_3])] a w at h
  generalize β 0 = p1 at h
  generalize β 1 = p2 at h
  clear β
  show Code.wp Tryd.prog _ _ a w
  refine wp_seq ?_
  refine region_do (n := 55) [.slot 10 100000 100000 (fun _ _ => (eqVP (.slice none 0 0))),
      .slot 11 100000 100000 (fun _ _ => (eqVP (.slice none 0 0)))] [0, 1] [⟨[], [], [7], [], some 10⟩, ⟨[], [], [8], [0], some 11⟩] [0, 1, 2, 3, 7, 8, 4, 5, 6] mixed hn hG h (by kernel_rfl) ?_ ?_
  · exact ⟨⟨rfl, fun β => (GOk.plain (op_assign (opc (ec _))) rfl)⟩, ⟨rfl, fun β => (GOk.plain (op_assign (opc (ec _))) rfl)⟩, trivial⟩
  clear h
  intro β a w h
  change SatL c [.slot 0 (eqVP p_0), .slot 2 (intVP .i64 a_2), .slot 5 (lpVP p1 0), .slot 7 (lpVP p2 0), .slot 10 (eqVP (.slice none 0 0)), .slot 11 (eqVP (.slice none 0 0)), .res (RLog_e p_0 L_0), .res (lb p1 24 [bytesCk 32 a_1]), .res (lb p2 24 [bytesCk 32 a_3])] a w at h
  clear β
  show Code.wp Tryd.prog _ _ a w
  refine wp_seq ?_
  refine wp_seq ?_
  refine region_do (n := 55) [.slot 12 100000 100000 (fun _ _ => (intVP .i64 0))] [0] [⟨[], [], [9], [], some 12⟩] [0, 1, 2, 3, 4, 5, 9, 6, 7, 8] mixed hn hG h (by kernel_rfl) ?_ ?_
  · exact ⟨⟨rfl, fun β => (GOk.plain (op_assign (opc (ic (by decide)))) rfl)⟩, trivial⟩
  clear h
  intro β a w h
  change SatL c [.slot 0 (eqVP p_0), .slot 2 (intVP .i64 a_2), .slot 5 (lpVP p1 0), .slot 7 (lpVP p2 0), .slot 10 (eqVP (.slice none 0 0)), .slot 11 (eqVP (.slice none 0 0)), .slot 12 (intVP .i64 0), .res (RLog_e p_0 L_0), .res (lb p1 24 [bytesCk 32 a_1]), .res (lb p2 24 [bytesCk 32 a_3])] a w at h
  clear β
  show Code.wp Tryd.prog _ _ a w
  refine wp_block ?_
  obtain ⟨q28, h⟩ : ∃ q28 : Value, SatL c [.slot 0 (eqVP p_0), .slot 2 (intVP .i64 a_2), .slot 5 (lpVP p1 0), .slot 7 (lpVP p2 0), .slot 10 (eqVP q28), .slot 11 (eqVP (.slice none 0 0)), .slot 12 (intVP .i64 0), .res (RLog_e p_0 L_0), .res (lb p1 24 [bytesCk 32 a_1]), .res (lb p2 24 [bytesCk 32 a_3]), .res (acc q28 24 32 (dC 32) [])] a w := ⟨.slice none 0 0, (h.nilacc 24 32 (dC 32)).sub [0, 1, 2, 3, 4, 5, 6, 7, 8, 9, 10] (by rfl)⟩
  obtain ⟨q29, h⟩ : ∃ q29 : Value, SatL c [.slot 0 (eqVP p_0), .slot 2 (intVP .i64 a_2), .slot 5 (lpVP p1 0), .slot 7 (lpVP p2 0), .slot 10 (eqVP q28), .slot 11 (eqVP q29), .slot 12 (intVP .i64 0), .res (RLog_e p_0 L_0), .res (lb p1 24 [bytesCk 32 a_1]), .res (lb p2 24 [bytesCk 32 a_3]), .res (acc q28 24 32 (dC 32) []), .res (acc q29 24 32 (dC 32) [])] a w := ⟨.slice none 0 0, (h.nilacc 24 32 (dC 32)).sub [0, 1, 2, 3, 4, 5, 6, 7, 8, 9, 10, 11] (by rfl)⟩
  obtain ⟨cr116, hl117, hF⟩ := bind_some hF
  refine wp_mono (wp_loopN (R := (List (List UInt8)) × (List (List UInt8)) × (Option O_RLog)) (S := Int × (Option O_RLog) × (List (List UInt8)) × (List (List UInt8))) (fun s a w => ∃ q54 : Value, ∃ q56 : Value, SatL c [.slot 0 (eqVP p_0), .slot 2 (intVP .i64 a_2), .slot 5 (lpVP p1 0), .slot 7 (lpVP p2 0), .slot 10 (eqVP q54), .slot 11 (eqVP q56), .slot 12 (intVP .i64 s.1), .res (RLog_e p_0 s.2.1), .res (lb p1 24 [bytesCk 32 a_1]), .res (lb p2 24 [bytesCk 32 a_3]), .res (acc q54 24 32 (dC 32) s.2.2.1), .res (acc q56 24 32 (dC 32) s.2.2.2)] a w) (fun res e a w => match res with | .next s => e = .exit 0 ∧ ∃ q54 : Value, ∃ q56 : Value, SatL c [.slot 10 (eqVP q54), .slot 11 (eqVP q56), .res (RLog_e p_0 s.2.1), .res (acc q54 24 32 (dC 32) s.2.2.1), .res (acc q56 24 32 (dC 32) s.2.2.2)] a w | .ret r => e = .ret ∧ RetOk Tryd.prog Tryd.f36 c (tupVP [(slVP (dC 32) r.1), (slVP (dC 32) r.2.1)]) (fun _ => [RLog_e p_0 r.2.2]) a w) ?_ _ (0, L_0, [], []) _ _ _ ⟨q28, q29, (h.sub [0, 1, 2, 3, 4, 5, 6, 7, 8, 9, 10, 11] (by rfl))⟩ hl117) ?_
  · clear hl117 hF h
    intro s a w o h hF
    obtain ⟨x51, x52, x53, x55⟩ := s
    obtain ⟨q54, q56, h⟩ := h
    change ref05_Sign.b1 a_1 a_2 a_3 x51 x52 x53 x55 = some o at hF
    unfold ref05_Sign.b1 at hF
    change SatL c [.slot 0 (eqVP p_0), .slot 2 (intVP .i64 a_2), .slot 5 (lpVP p1 0), .slot 7 (lpVP p2 0), .slot 10 (eqVP q54), .slot 11 (eqVP q56), .slot 12 (intVP .i64 x51), .res (RLog_e p_0 x52), .res (lb p1 24 [bytesCk 32 a_1]), .res (lb p2 24 [bytesCk 32 a_3]), .res (acc q54 24 32 (dC 32) x53), .res (acc q56 24 32 (dC 32) x55)] a w at h
    refine wp_seq ?_
    refine wp_seq ?_
    refine region_do (n := 55) [.slot 15 100000 100000 (fun _ _ => (intVP .i64 x51)),
      .slot 16 100000 100000 (fun _ _ => (boolVP (decide (x51 < (32 : Int)))))] [0, 1] [⟨[6], [], [12], [], some 15⟩, ⟨[12], [], [13], [0], some 16⟩] [0, 1, 2, 3, 4, 5, 6, 13, 7, 8, 9, 10, 11] mixed hn hG h (by kernel_rfl) ?_ ?_
    · exact ⟨⟨rfl, fun β => (GOk.plain (op_move (opt 0 rfl)) rfl)⟩, ⟨rfl, fun β => (GOk.plain (op_bin bin_lss (opt 0 rfl) (opc (ic (by decide)))) rfl)⟩, trivial⟩
    clear h
    intro β a w h
    change SatL c [.slot 0 (eqVP p_0), .slot 2 (intVP .i64 a_2), .slot 5 (lpVP p1 0), .slot 7 (lpVP p2 0), .slot 10 (eqVP q54), .slot 11 (eqVP q56), .slot 12 (intVP .i64 x51), .slot 16 (boolVP (decide (x51 < (32 : Int)))), .res (RLog_e p_0 x52), .res (lb p1 24 [bytesCk 32 a_1]), .res (lb p2 24 [bytesCk 32 a_3]), .res (acc q54 24 32 (dC 32) x53), .res (acc q56 24 32 (dC 32) x55)] a w at h
    clear β
    show Code.wp Tryd.prog _ _ a w
    refine cond_L h 7 rfl (fun hb84 => ?_) (fun hb84 => ?_)
    · replace hF := tt_of hb84 hF
      replace h := h.sub [0, 1, 2, 3, 4, 5, 6, 8, 9, 10, 11, 12] (by rfl)
      change SatL c [.slot 0 (eqVP p_0), .slot 2 (intVP .i64 a_2), .slot 5 (lpVP p1 0), .slot 7 (lpVP p2 0), .slot 10 (eqVP q54), .slot 11 (eqVP q56), .slot 12 (intVP .i64 x51), .res (RLog_e p_0 x52), .res (lb p1 24 [bytesCk 32 a_1]), .res (lb p2 24 [bytesCk 32 a_3]), .res (acc q54 24 32 (dC 32) x53), .res (acc q56 24 32 (dC 32) x55)] a w at h
      refine wp_skip ?_
      show Code.wp Tryd.prog _ _ a w
      refine wp_seq ?_
      refine wp_block ?_
      refine wp_seq ?_
      obtain ⟨r85, hr85, hF⟩ := bind_some hF
      obtain ⟨r86, hr86, hF⟩ := bind_some hF
      refine region_do (n := 55) [.slot 19 100000 100000 (fun _ _ => (eqVP p_0)),
      .slot 20 100000 100000 (fun _ _ => (aggVP [bytesCk 32 a_1])),
      .slot 21 100000 100000 (fun _ _ => (intVP .i64 a_2)),
      .slot 22 100000 100000 (fun _ _ => (intVP .i64 x51)),
      .slot 23 100000 100000 (fun _ _ => (aggVP [bytesCk 32 r85.1])),
      .res 100000 100000 (fun _ _ => (RLog_e p_0 r85.2)),
      .slot 24 100000 100000 (fun _ _ => (eqVP p_0)),
      .slot 25 100000 100000 (fun _ _ => (aggVP [bytesCk 32 a_1])),
      .slot 26 100000 100000 (fun _ _ => (intVP .i64 a_2)),
      .slot 27 100000 100000 (fun _ _ => (intVP .i64 x51)),
      .slot 28 100000 100000 (fun _ _ => (aggVP [bytesCk 32 r86.1])),
      .res 100000 100000 (fun _ _ => (RLog_e p_0 r86.2)),
      .slot 13 10 100000 (fun v1_ _ => (lpVP v1_ 0)),
      .res 10 100000 (fun v1_ _ => (lb (v1_) 24 [bytesCk 32 (List.replicate 32 0)])),
      .slot 14 11 100000 (fun v1_ _ => (lpVP v1_ 0)),
      .res 11 100000 (fun v1_ _ => (lb (v1_) 24 [bytesCk 32 (List.replicate 32 0)])),
      .res 10 100000 (fun v1_ _ => (lb (v1_) 24 [bytesCk 32 r85.1])),
      .res 11 100000 (fun v1_ _ => (lb (v1_) 24 [bytesCk 32 r86.1]))] [0, 1, 2, 3, 4, 4, 5, 6, 7, 8, 9, 9, 10, 10, 11, 11, 12, 13] [⟨[0], [], [12], [], some 19⟩, ⟨[2, 8], [], [13], [], some 20⟩, ⟨[1], [], [14], [], some 21⟩, ⟨[6], [], [15], [], some 22⟩, ⟨[12, 13, 14, 15], [7], [16, 17], [0, 1, 2, 3], some 23⟩, ⟨[0], [], [18], [], some 24⟩, ⟨[2, 8], [], [19], [], some 25⟩, ⟨[1], [], [20], [], some 26⟩, ⟨[6], [], [21], [], some 27⟩, ⟨[18, 19, 20, 21], [17], [22, 23], [0, 1, 2, 3, 4, 5, 6, 7, 8], some 28⟩, ⟨[], [], [24, 25], [], some 13⟩, ⟨[], [], [26, 27], [], some 14⟩, ⟨[24, 16], [25], [28], [0, 1, 2, 3, 4, 5, 6, 7, 8, 9, 10, 11], none⟩, ⟨[26, 22], [27], [29], [0, 1, 2, 3, 4, 5, 6, 7, 8, 9, 10, 11, 12], none⟩] [0, 1, 2, 3, 4, 5, 6, 24, 26, 8, 9, 10, 11, 23, 28, 29] mixed hn hG h (by kernel_rfl) ?_ ?_
      · exact ⟨⟨rfl, fun β => (GOk.plain (op_move (opt 0 rfl)) rfl)⟩, ⟨rfl, fun β => (GOk.plain (op_load_lb [] [bytesCk 32 a_1] [] 1 Tryd.isAgg24 Tryd.sizeOf24 (opt 0 rfl) rfl rfl rfl) rfl)⟩, ⟨rfl, fun β => (GOk.plain (op_move (opt 0 rfl)) rfl)⟩, ⟨rfl, fun β => (GOk.plain (op_move (opt 0 rfl)) rfl)⟩, ⟨rfl, fun β => (GOk.plain (op_call Tryd.call32 (ref05_Secret_ok hr85) ⟨(opt 0 rfl), (opt 1 rfl), (opt 2 rfl), (opt 3 rfl), (opc (ic (by decide))), trivial⟩) rfl)⟩, ⟨rfl, fun β => (GOk.plain (op_move (opt 0 rfl)) rfl)⟩, ⟨rfl, fun β => (GOk.plain (op_load_lb [] [bytesCk 32 a_1] [] 1 Tryd.isAgg24 Tryd.sizeOf24 (opt 0 rfl) rfl rfl rfl) rfl)⟩, ⟨rfl, fun β => (GOk.plain (op_move (opt 0 rfl)) rfl)⟩, ⟨rfl, fun β => (GOk.plain (op_move (opt 0 rfl)) rfl)⟩, ⟨rfl, fun β => (GOk.plain (op_call Tryd.call32 (ref05_Secret_ok hr86) ⟨(opt 0 rfl), (opt 1 rfl), (opt 2 rfl), (opt 3 rfl), (opc (ic (by decide))), trivial⟩) rfl)⟩, ⟨rfl, fun β => (GOk.plain (op_alloc Tryd.zeroValue24 z24) rfl)⟩, ⟨rfl, fun β => (GOk.plain (op_alloc Tryd.zeroValue24 z24) rfl)⟩, ⟨rfl, fun β => (GOk.plain (op_store_lb [] [bytesCk 32 (List.replicate 32 0)] [] [bytesCk 32 r85.1] Tryd.sizeOf24 (opt 0 rfl) (opt 1 rfl) (cells_agg _) rfl rfl rfl) rfl)⟩, ⟨rfl, fun β => (GOk.plain (op_store_lb [] [bytesCk 32 (List.replicate 32 0)] [] [bytesCk 32 r86.1] Tryd.sizeOf24 (opt 0 rfl) (opt 1 rfl) (cells_agg _) rfl rfl rfl) rfl)⟩, trivial⟩
      clear h
      intro β a w h
      change SatL c [.slot 0 (eqVP p_0), .slot 2 (intVP .i64 a_2), .slot 5 (lpVP p1 0), .slot 7 (lpVP p2 0), .slot 10 (eqVP q54), .slot 11 (eqVP q56), .slot 12 (intVP .i64 x51), .slot 13 (lpVP (β 10) 0), .slot 14 (lpVP (β 11) 0), .res (lb p1 24 [bytesCk 32 a_1]), .res (lb p2 24 [bytesCk 32 a_3]), .res (acc q54 24 32 (dC 32) x53), .res (acc q56 24 32 (dC 32) x55), .res (RLog_e p_0 r86.2), .res (lb (β 10) 24 [bytesCk 32 r85.1]), .res (lb (β 11) 24 [bytesCk 32 r86.1])] a w at h
      generalize β 10 = p87 at h
      generalize β 11 = p88 at h
      clear β
      show Code.wp Tryd.prog _ _ a w
      refine wp_seq ?_
      obtain ⟨r89, hr89, hF⟩ := bind_some hF
      refine region_do (n := 55) [.slot 29 100000 100000 (fun _ _ => (aggVP [bytesCk 32 a_3])),
      .slot 30 100000 100000 (fun _ _ => (intVP .i64 x51)),
      .slot 31 100000 100000 (fun _ _ => (intVP .i64 r89)),
      .slot 32 100000 100000 (fun _ _ => (boolVP (decide (r89 = (0 : Int)))))] [0, 1, 2, 3] [⟨[3, 10], [], [16], [], some 29⟩, ⟨[6], [], [17], [0], some 30⟩, ⟨[16, 17], [], [18], [0, 1], some 31⟩, ⟨[18], [], [19], [0, 1, 2], some 32⟩] [0, 1, 2, 3, 4, 5, 6, 7, 8, 19, 9, 10, 11, 12, 13, 14, 15] mixed hn hG h (by kernel_rfl) ?_ ?_
      · exact ⟨⟨rfl, fun β => (GOk.plain (op_load_lb [] [bytesCk 32 a_3] [] 1 Tryd.isAgg24 Tryd.sizeOf24 (opt 0 rfl) rfl rfl rfl) rfl)⟩, ⟨rfl, fun β => (GOk.plain (op_move (opt 0 rfl)) rfl)⟩, ⟨rfl, fun β => (GOk.plain (op_call Tryd.call33 (ref05_Bit_ok hr89) ⟨(opt 0 rfl), (opt 1 rfl), trivial⟩) rfl)⟩, ⟨rfl, fun β => (GOk.plain (op_bin bin_eql (opt 0 rfl) (opc (ic (by decide)))) rfl)⟩, trivial⟩
      clear h
      intro β a w h
      change SatL c [.slot 0 (eqVP p_0), .slot 2 (intVP .i64 a_2), .slot 5 (lpVP p1 0), .slot 7 (lpVP p2 0), .slot 10 (eqVP q54), .slot 11 (eqVP q56), .slot 12 (intVP .i64 x51), .slot 13 (lpVP p87 0), .slot 14 (lpVP p88 0), .slot 32 (boolVP (decide (r89 = (0 : Int)))), .res (lb p1 24 [bytesCk 32 a_1]), .res (lb p2 24 [bytesCk 32 a_3]), .res (acc q54 24 32 (dC 32) x53), .res (acc q56 24 32 (dC 32) x55), .res (RLog_e p_0 r86.2), .res (lb p87 24 [bytesCk 32 r85.1]), .res (lb p88 24 [bytesCk 32 r86.1])] a w at h
      clear β
      show Code.wp Tryd.prog _ _ a w
      refine wp_cut (fun a w => ∃ (x100 : Option O_RLog), ∃ (x101 : List (List UInt8)), ∃ (x103 : List (List UInt8)), ∃ q102 : Value, ∃ q104 : Value, ref05_Sign.j1 x51 x100 x101 x103 = some o ∧ SatL c [.slot 0 (eqVP p_0), .slot 2 (intVP .i64 a_2), .slot 5 (lpVP p1 0), .slot 7 (lpVP p2 0), .slot 10 (eqVP q102), .slot 11 (eqVP q104), .slot 12 (intVP .i64 x51), .res (lb p1 24 [bytesCk 32 a_1]), .res (lb p2 24 [bytesCk 32 a_3]), .res (RLog_e p_0 x100), .res (acc q102 24 32 (dC 32) x101), .res (acc q104 24 32 (dC 32) x103)] a w) ?_ ?_
      · refine cond_L h 9 rfl (fun hb105 => ?_) (fun hb105 => ?_)
        · replace hF := tt_of hb105 hF
          replace h := h.sub [0, 1, 2, 3, 4, 5, 6, 7, 8, 10, 11, 12, 13, 14, 15, 16] (by rfl)
          change SatL c [.slot 0 (eqVP p_0), .slot 2 (intVP .i64 a_2), .slot 5 (lpVP p1 0), .slot 7 (lpVP p2 0), .slot 10 (eqVP q54), .slot 11 (eqVP q56), .slot 12 (intVP .i64 x51), .slot 13 (lpVP p87 0), .slot 14 (lpVP p88 0), .res (lb p1 24 [bytesCk 32 a_1]), .res (lb p2 24 [bytesCk 32 a_3]), .res (acc q54 24 32 (dC 32) x53), .res (acc q56 24 32 (dC 32) x55), .res (RLog_e p_0 r86.2), .res (lb p87 24 [bytesCk 32 r85.1]), .res (lb p88 24 [bytesCk 32 r86.1])] a w at h
          refine wp_seq ?_
          obtain ⟨hv106, hF⟩ := ite_some hF
          refine region_do (n := 55) [.slot 33 100000 100000 (fun _ _ => (eqVP q54)),
      .slot 34 100000 100000 (fun _ _ => (aggVP [bytesCk 32 r85.1])),
      .slot 35 100000 100000 (fun _ _ => (slVP (dC 32) [r85.1])),
      .slot 36 3 100000 (fun v1_ _ => (eqVP v1_)),
      .res 3 100000 (fun v1_ _ => (acc (v1_) 24 32 (dC 32) (x53 ++ [r85.1]))),
      .slot 10 3 100000 (fun v1_ _ => (eqVP v1_))] [0, 1, 2, 3, 3, 4] [⟨[4], [], [16], [], some 33⟩, ⟨[7, 14], [], [17], [0], some 34⟩, ⟨[17], [], [18], [0, 1], some 35⟩, ⟨[16, 18], [11], [19, 20], [0, 1, 2], some 36⟩, ⟨[19], [4], [21], [0, 1, 2, 3], some 10⟩] [0, 1, 2, 3, 21, 5, 6, 8, 9, 10, 12, 13, 15, 20] mixed hn hG h (by kernel_rfl) ?_ ?_
          · exact ⟨⟨rfl, fun β => (GOk.plain (op_move (opt 0 rfl)) rfl)⟩, ⟨rfl, fun β => (GOk.plain (op_load_lb [] [bytesCk 32 r85.1] [] 1 Tryd.isAgg24 Tryd.sizeOf24 (opt 0 rfl) rfl rfl rfl) rfl)⟩, ⟨rfl, fun β => (GOk.plain (op_lit (xs := [.tmp 34]) (ys := [r85.1]) _ rfl Tryd.underlying46 Tryd.sizeOf24 Tryd.zeroValue24 rfl rfl (by decide) (by decide) ⟨⟨_, (opt 0 rfl), (cells_agg _)⟩, trivial⟩ (lens_dC 32)) rfl)⟩, ⟨rfl, fun β => (GOk.plain (op_append (i := Tryd.t24) Tryd.underlying46 Tryd.type24 rfl (lens_dC 32) (by decide) rfl (opt 0 rfl) (opt 1 rfl) hv106) rfl)⟩, ⟨rfl, fun β => (GOk.drop _ (GOk.plain (op_assign (V := (eqVP (β 3))) (opt 0 rfl)) rfl))⟩, trivial⟩
          clear h
          intro β a w h
          change SatL c [.slot 0 (eqVP p_0), .slot 2 (intVP .i64 a_2), .slot 5 (lpVP p1 0), .slot 7 (lpVP p2 0), .slot 10 (eqVP (β 3)), .slot 11 (eqVP q56), .slot 12 (intVP .i64 x51), .slot 14 (lpVP p88 0), .res (lb p1 24 [bytesCk 32 a_1]), .res (lb p2 24 [bytesCk 32 a_3]), .res (acc q56 24 32 (dC 32) x55), .res (RLog_e p_0 r86.2), .res (lb p88 24 [bytesCk 32 r86.1]), .res (acc (β 3) 24 32 (dC 32) (x53 ++ [r85.1]))] a w at h
          generalize β 3 = p107 at h
          clear β
          show Code.wp Tryd.prog _ _ a w
          obtain ⟨r108, hr108, hF⟩ := bind_some hF
          obtain ⟨hv109, hF⟩ := ite_some hF
          refine region_do (n := 55) [.slot 37 100000 100000 (fun _ _ => (eqVP q56)),
      .slot 38 100000 100000 (fun _ _ => (eqVP p_0)),
      .slot 39 100000 100000 (fun _ _ => (aggVP [bytesCk 32 r86.1])),
      .slot 40 100000 100000 (fun _ _ => (aggVP [bytesCk 32 r108.1])),
      .res 100000 100000 (fun _ _ => (RLog_e p_0 r108.2)),
      .slot 41 100000 100000 (fun _ _ => (slVP (dC 32) [r108.1])),
      .slot 42 5 100000 (fun v1_ _ => (eqVP v1_)),
      .res 5 100000 (fun v1_ _ => (acc (v1_) 24 32 (dC 32) (x55 ++ [r108.1]))),
      .slot 11 5 100000 (fun v1_ _ => (eqVP v1_))] [0, 1, 2, 3, 3, 4, 5, 5, 6] [⟨[5], [], [14], [], some 37⟩, ⟨[0], [], [15], [0], some 38⟩, ⟨[7, 12], [], [16], [0, 1], some 39⟩, ⟨[15, 16], [11], [17, 18], [0, 1, 2], some 40⟩, ⟨[17], [], [19], [0, 1, 2, 3], some 41⟩, ⟨[14, 19], [10], [20, 21], [0, 1, 2, 3, 4], some 42⟩, ⟨[20], [5], [22], [0, 1, 2, 3, 4, 5], some 11⟩] [0, 1, 2, 3, 4, 22, 6, 8, 9, 13, 18, 21] mixed hn hG h (by kernel_rfl) ?_ ?_
          · exact ⟨⟨rfl, fun β => (GOk.plain (op_move (opt 0 rfl)) rfl)⟩, ⟨rfl, fun β => (GOk.plain (op_move (opt 0 rfl)) rfl)⟩, ⟨rfl, fun β => (GOk.plain (op_load_lb [] [bytesCk 32 r86.1] [] 1 Tryd.isAgg24 Tryd.sizeOf24 (opt 0 rfl) rfl rfl rfl) rfl)⟩, ⟨rfl, fun β => (GOk.plain (op_call Tryd.call35 (ref05_Public_ok hr108) ⟨(opt 0 rfl), (opt 1 rfl), trivial⟩) rfl)⟩, ⟨rfl, fun β => (GOk.plain (op_lit (xs := [.tmp 40]) (ys := [r108.1]) _ rfl Tryd.underlying46 Tryd.sizeOf24 Tryd.zeroValue24 rfl rfl (by decide) (by decide) ⟨⟨_, (opt 0 rfl), (cells_agg _)⟩, trivial⟩ (lens_dC 32)) rfl)⟩, ⟨rfl, fun β => (GOk.plain (op_append (i := Tryd.t24) Tryd.underlying46 Tryd.type24 rfl (lens_dC 32) (by decide) rfl (opt 0 rfl) (opt 1 rfl) hv109) rfl)⟩, ⟨rfl, fun β => (GOk.drop _ (GOk.plain (op_assign (V := (eqVP (β 5))) (opt 0 rfl)) rfl))⟩, trivial⟩
          clear h
          intro β a w h
          change SatL c [.slot 0 (eqVP p_0), .slot 2 (intVP .i64 a_2), .slot 5 (lpVP p1 0), .slot 7 (lpVP p2 0), .slot 10 (eqVP p107), .slot 11 (eqVP (β 5)), .slot 12 (intVP .i64 x51), .res (lb p1 24 [bytesCk 32 a_1]), .res (lb p2 24 [bytesCk 32 a_3]), .res (acc p107 24 32 (dC 32) (x53 ++ [r85.1])), .res (RLog_e p_0 r108.2), .res (acc (β 5) 24 32 (dC 32) (x55 ++ [r108.1]))] a w at h
          generalize β 5 = p110 at h
          clear β
          exact ⟨r108.2, x53 ++ [r85.1], x55 ++ [r108.1], p107, p110, hF, h.sub [0, 1, 2, 3, 4, 5, 6, 7, 8, 10, 9, 11] (by rfl)⟩
        · replace hF := ff_of hb105 hF
          replace h := h.sub [0, 1, 2, 3, 4, 5, 6, 7, 8, 10, 11, 12, 13, 14, 15, 16] (by rfl)
          change SatL c [.slot 0 (eqVP p_0), .slot 2 (intVP .i64 a_2), .slot 5 (lpVP p1 0), .slot 7 (lpVP p2 0), .slot 10 (eqVP q54), .slot 11 (eqVP q56), .slot 12 (intVP .i64 x51), .slot 13 (lpVP p87 0), .slot 14 (lpVP p88 0), .res (lb p1 24 [bytesCk 32 a_1]), .res (lb p2 24 [bytesCk 32 a_3]), .res (acc q54 24 32 (dC 32) x53), .res (acc q56 24 32 (dC 32) x55), .res (RLog_e p_0 r86.2), .res (lb p87 24 [bytesCk 32 r85.1]), .res (lb p88 24 [bytesCk 32 r86.1])] a w at h
          refine wp_seq ?_
          obtain ⟨hv111, hF⟩ := ite_some hF
          refine region_do (n := 55) [.slot 43 100000 100000 (fun _ _ => (eqVP q54)),
      .slot 44 100000 100000 (fun _ _ => (aggVP [bytesCk 32 r86.1])),
      .slot 45 100000 100000 (fun _ _ => (slVP (dC 32) [r86.1])),
      .slot 46 3 100000 (fun v1_ _ => (eqVP v1_)),
      .res 3 100000 (fun v1_ _ => (acc (v1_) 24 32 (dC 32) (x53 ++ [r86.1]))),
      .slot 10 3 100000 (fun v1_ _ => (eqVP v1_))] [0, 1, 2, 3, 3, 4] [⟨[4], [], [16], [], some 43⟩, ⟨[8, 15], [], [17], [0], some 44⟩, ⟨[17], [], [18], [0, 1], some 45⟩, ⟨[16, 18], [11], [19, 20], [0, 1, 2], some 46⟩, ⟨[19], [4], [21], [0, 1, 2, 3], some 10⟩] [0, 1, 2, 3, 21, 5, 6, 7, 9, 10, 12, 13, 14, 20] mixed hn hG h (by kernel_rfl) ?_ ?_
          · exact ⟨⟨rfl, fun β => (GOk.plain (op_move (opt 0 rfl)) rfl)⟩, ⟨rfl, fun β => (GOk.plain (op_load_lb [] [bytesCk 32 r86.1] [] 1 Tryd.isAgg24 Tryd.sizeOf24 (opt 0 rfl) rfl rfl rfl) rfl)⟩, ⟨rfl, fun β => (GOk.plain (op_lit (xs := [.tmp 44]) (ys := [r86.1]) _ rfl Tryd.underlying46 Tryd.sizeOf24 Tryd.zeroValue24 rfl rfl (by decide) (by decide) ⟨⟨_, (opt 0 rfl), (cells_agg _)⟩, trivial⟩ (lens_dC 32)) rfl)⟩, ⟨rfl, fun β => (GOk.plain (op_append (i := Tryd.t24) Tryd.underlying46 Tryd.type24 rfl (lens_dC 32) (by decide) rfl (opt 0 rfl) (opt 1 rfl) hv111) rfl)⟩, ⟨rfl, fun β => (GOk.drop _ (GOk.plain (op_assign (V := (eqVP (β 3))) (opt 0 rfl)) rfl))⟩, trivial⟩
          clear h
          intro β a w h
          change SatL c [.slot 0 (eqVP p_0), .slot 2 (intVP .i64 a_2), .slot 5 (lpVP p1 0), .slot 7 (lpVP p2 0), .slot 10 (eqVP (β 3)), .slot 11 (eqVP q56), .slot 12 (intVP .i64 x51), .slot 13 (lpVP p87 0), .res (lb p1 24 [bytesCk 32 a_1]), .res (lb p2 24 [bytesCk 32 a_3]), .res (acc q56 24 32 (dC 32) x55), .res (RLog_e p_0 r86.2), .res (lb p87 24 [bytesCk 32 r85.1]), .res (acc (β 3) 24 32 (dC 32) (x53 ++ [r86.1]))] a w at h
          generalize β 3 = p112 at h
          clear β
          show Code.wp Tryd.prog _ _ a w
          obtain ⟨r113, hr113, hF⟩ := bind_some hF
          obtain ⟨hv114, hF⟩ := ite_some hF
          refine region_do (n := 55) [.slot 47 100000 100000 (fun _ _ => (eqVP q56)),
      .slot 48 100000 100000 (fun _ _ => (eqVP p_0)),
      .slot 49 100000 100000 (fun _ _ => (aggVP [bytesCk 32 r85.1])),
      .slot 50 100000 100000 (fun _ _ => (aggVP [bytesCk 32 r113.1])),
      .res 100000 100000 (fun _ _ => (RLog_e p_0 r113.2)),
      .slot 51 100000 100000 (fun _ _ => (slVP (dC 32) [r113.1])),
      .slot 52 5 100000 (fun v1_ _ => (eqVP v1_)),
      .res 5 100000 (fun v1_ _ => (acc (v1_) 24 32 (dC 32) (x55 ++ [r113.1]))),
      .slot 11 5 100000 (fun v1_ _ => (eqVP v1_))] [0, 1, 2, 3, 3, 4, 5, 5, 6] [⟨[5], [], [14], [], some 47⟩, ⟨[0], [], [15], [0], some 48⟩, ⟨[7, 12], [], [16], [0, 1], some 49⟩, ⟨[15, 16], [11], [17, 18], [0, 1, 2], some 50⟩, ⟨[17], [], [19], [0, 1, 2, 3], some 51⟩, ⟨[14, 19], [10], [20, 21], [0, 1, 2, 3, 4], some 52⟩, ⟨[20], [5], [22], [0, 1, 2, 3, 4, 5], some 11⟩] [0, 1, 2, 3, 4, 22, 6, 8, 9, 13, 18, 21] mixed hn hG h (by kernel_rfl) ?_ ?_
          · exact ⟨⟨rfl, fun β => (GOk.plain (op_move (opt 0 rfl)) rfl)⟩, ⟨rfl, fun β => (GOk.plain (op_move (opt 0 rfl)) rfl)⟩, ⟨rfl, fun β => (GOk.plain (op_load_lb [] [bytesCk 32 r85.1] [] 1 Tryd.isAgg24 Tryd.sizeOf24 (opt 0 rfl) rfl rfl rfl) rfl)⟩, ⟨rfl, fun β => (GOk.plain (op_call Tryd.call35 (ref05_Public_ok hr113) ⟨(opt 0 rfl), (opt 1 rfl), trivial⟩) rfl)⟩, ⟨rfl, fun β => (GOk.plain (op_lit (xs := [.tmp 50]) (ys := [r113.1]) _ rfl Tryd.underlying46 Tryd.sizeOf24 Tryd.zeroValue24 rfl rfl (by decide) (by decide) ⟨⟨_, (opt 0 rfl), (cells_agg _)⟩, trivial⟩ (lens_dC 32)) rfl)⟩, ⟨rfl, fun β => (GOk.plain (op_append (i := Tryd.t24) Tryd.underlying46 Tryd.type24 rfl (lens_dC 32) (by decide) rfl (opt 0 rfl) (opt 1 rfl) hv114) rfl)⟩, ⟨rfl, fun β => (GOk.drop _ (GOk.plain (op_assign (V := (eqVP (β 5))) (opt 0 rfl)) rfl))⟩, trivial⟩
          clear h
          intro β a w h
          change SatL c [.slot 0 (eqVP p_0), .slot 2 (intVP .i64 a_2), .slot 5 (lpVP p1 0), .slot 7 (lpVP p2 0), .slot 10 (eqVP p112), .slot 11 (eqVP (β 5)), .slot 12 (intVP .i64 x51), .res (lb p1 24 [bytesCk 32 a_1]), .res (lb p2 24 [bytesCk 32 a_3]), .res (acc p112 24 32 (dC 32) (x53 ++ [r86.1])), .res (RLog_e p_0 r113.2), .res (acc (β 5) 24 32 (dC 32) (x55 ++ [r113.1]))] a w at h
          generalize β 5 = p115 at h
          clear β
          exact ⟨r113.2, x53 ++ [r86.1], x55 ++ [r113.1], p112, p115, hF, h.sub [0, 1, 2, 3, 4, 5, 6, 7, 8, 10, 9, 11] (by rfl)⟩
      · clear h hF
        rintro a w ⟨x100, x101, x103, q102, q104, hF, h⟩
        unfold ref05_Sign.j1 at hF
        show Code.wp Tryd.prog _ _ a w
        refine region_do (n := 55) [.slot 17 100000 100000 (fun _ _ => (intVP .i64 x51)),
      .slot 18 100000 100000 (fun _ _ => (intVP .i64 (IntKind.wrap .i64 (x51 + 1)))),
      .slot 12 100000 100000 (fun _ _ => (intVP .i64 (IntKind.wrap .i64 (x51 + 1))))] [0, 1, 2] [⟨[6], [], [12], [], some 17⟩, ⟨[12], [], [13], [0], some 18⟩, ⟨[13], [6], [14], [0, 1], some 12⟩] [0, 1, 2, 3, 4, 5, 14, 7, 8, 9, 10, 11] mixed hn hG h (by kernel_rfl) ?_ ?_
        · exact ⟨⟨rfl, fun β => (GOk.plain (op_move (opt 0 rfl)) rfl)⟩, ⟨rfl, fun β => (GOk.plain (op_bin bin_add (opt 0 rfl) (opc (ic (by decide)))) rfl)⟩, ⟨rfl, fun β => (GOk.drop _ (GOk.plain (op_assign (opt 0 rfl)) rfl))⟩, trivial⟩
        clear h
        intro β a w h
        change SatL c [.slot 0 (eqVP p_0), .slot 2 (intVP .i64 a_2), .slot 5 (lpVP p1 0), .slot 7 (lpVP p2 0), .slot 10 (eqVP q102), .slot 11 (eqVP q104), .slot 12 (intVP .i64 (IntKind.wrap .i64 (x51 + 1))), .res (lb p1 24 [bytesCk 32 a_1]), .res (lb p2 24 [bytesCk 32 a_3]), .res (RLog_e p_0 x100), .res (acc q102 24 32 (dC 32) x101), .res (acc q104 24 32 (dC 32) x103)] a w at h
        clear β
        obtain rfl := Option.some.inj hF
        exact ⟨rfl, q102, q104, h.sub [0, 1, 2, 3, 4, 5, 6, 9, 7, 8, 10, 11] (by rfl)⟩
    · replace hF := ff_of hb84 hF
      replace h := h.sub [0, 1, 2, 3, 4, 5, 6, 8, 9, 10, 11, 12] (by rfl)
      change SatL c [.slot 0 (eqVP p_0), .slot 2 (intVP .i64 a_2), .slot 5 (lpVP p1 0), .slot 7 (lpVP p2 0), .slot 10 (eqVP q54), .slot 11 (eqVP q56), .slot 12 (intVP .i64 x51), .res (RLog_e p_0 x52), .res (lb p1 24 [bytesCk 32 a_1]), .res (lb p2 24 [bytesCk 32 a_3]), .res (acc q54 24 32 (dC 32) x53), .res (acc q56 24 32 (dC 32) x55)] a w at h
      refine wp_exit ?_
      obtain rfl := Option.some.inj hF
      exact ⟨exit_ne _, rfl, q54, q56, h.sub [4, 5, 7, 10, 11] (by rfl)⟩
  · clear hl117
    intro e a w hq
    cases cr116 with
    | ret r118 =>
      obtain ⟨rfl, hq⟩ := hq
      obtain rfl := Option.some.inj hF
      exact ⟨.inl rfl, hq⟩
    | next s119 =>
      obtain ⟨y120, y121, y122, y123⟩ := s119
      obtain ⟨rfl, q54, q56, h⟩ := hq
      change SatL c [.slot 10 (eqVP q54), .slot 11 (eqVP q56), .res (RLog_e p_0 y121), .res (acc q54 24 32 (dC 32) y122), .res (acc q56 24 32 (dC 32) y123)] a w at h
      refine inBlock_at ?_
      show Code.wp Tryd.prog _ _ a w
      refine wp_seq ?_
      refine region_do (n := 55) [.slot 53 100000 100000 (fun _ _ => (eqVP q54)),
      .slot 54 100000 100000 (fun _ _ => (eqVP q56)),
      .slot 8 100000 100000 (fun _ _ => (eqVP q54)),
      .slot 9 100000 100000 (fun _ _ => (eqVP q56))] [0, 1, 2, 3] [⟨[0], [], [5], [], some 53⟩, ⟨[1], [], [6], [0], some 54⟩, ⟨[5], [], [7], [0, 1], some 8⟩, ⟨[6], [], [8], [0, 1, 2], some 9⟩] [7, 8, 2, 3, 4] mixed hn hG h (by kernel_rfl) ?_ ?_
      · exact ⟨⟨rfl, fun β => (GOk.plain (op_move (opt 0 rfl)) rfl)⟩, ⟨rfl, fun β => (GOk.plain (op_move (opt 0 rfl)) rfl)⟩, ⟨rfl, fun β => (GOk.plain (op_assign (opt 0 rfl)) rfl)⟩, ⟨rfl, fun β => (GOk.plain (op_assign (opt 0 rfl)) rfl)⟩, trivial⟩
      clear h
      intro β a w h
      change SatL c [.slot 8 (eqVP q54), .slot 9 (eqVP q56), .res (RLog_e p_0 y121), .res (acc q54 24 32 (dC 32) y122), .res (acc q56 24 32 (dC 32) y123)] a w at h
      clear β
      show Code.wp Tryd.prog _ _ a w
      refine wp_ret ?_
      obtain rfl := Option.some.inj hF
      exact ⟨.inl rfl, retn h (rs := [.tmp 8, .tmp 9]) (Vs := [(slVP (dC 32) y122), (slVP (dC 32) y123)]) Tryd.results36 (by decide) ⟨(r_acc 0 3 rfl rfl), (r_acc 1 4 rfl rfl), trivial⟩ [2] [(RLog_e p_0 y121)] rfl rfl rfl⟩

def ref03_SameList.b1 (a_0 : List (List UInt8)) (a_1 : List (List UInt8)) (x6 : Int) : Option (Flow Bool Int) := (if (decide (x6 < (a_0.length : Int))) = true then (if (0 : Int) ≤ x6 ∧ x6 < a_0.length then (if (0 : Int) ≤ x6 ∧ x6 < a_1.length then (if (!decide ((a_0.getD x6.toNat default) = (a_1.getD x6.toNat default))) = true then some (.ret false) else some (.cont (IntKind.wrap .i64 (x6 + 1)))) else none) else none) else some (.brk x6))
def ref03_SameList (a_0 : List (List UInt8)) (a_1 : List (List UInt8)) : Option Bool := (if (!decide ((a_0.length : Int) = (a_1.length : Int))) = true then some false else ((loopN (fun s : Int => ref03_SameList.b1 a_0 a_1 s) (((a_0.length : Int) - 0 : Int).toNat + 2) 0).bind fun cr => match cr with | .ret r => some r | .next y20 => some true))
theorem ref03_SameList_ok {a_0 : List (List UInt8)} {a_1 : List (List UInt8)} {r : Bool} (hF : ref03_SameList a_0 a_1 = some r) : CallOk Tryd.prog KG 37 [(slVP (dC 32) a_0), (slVP (dC 32) a_1)] [] (fun _ => []) (boolVP r) := by
  refine CallOk.intro 26 Tryd.func37 rfl Tryd.ntmps37 (Nat.le_of_ble_eq_true rfl) ?_
  intro c a w hG hn h
  unfold ref03_SameList at hF
  change SatL c [.slot 0 (slVP (dC 32) a_0), .slot 1 (slVP (dC 32) a_1)] a w at h
  refine wp_seq ?_
  refine region_do (n := 26) [.slot 4 100000 100000 (fun _ _ => (boolVP false))] [0] [⟨[], [], [2], [], some 4⟩] [0, 1] mixed hn hG h (by kernel_rfl) ?_ ?_
  · exact ⟨⟨rfl, fun β => (GOk.plain (op_assign (opc (bc _))) rfl)⟩, trivial⟩
  clear h
  intro β a w h
  change SatL c [.slot 0 (slVP (dC 32) a_0), .slot 1 (slVP (dC 32) a_1)] a w at h
  clear β
  show Code.wp Tryd.prog _ _ a w
  refine wp_seq ?_
  refine wp_seq ?_
  refine region_do (n := 26) [.slot 6 100000 100000 (fun _ _ => (slVP (dC 32) a_0)),
      .slot 7 100000 100000 (fun _ _ => (intVP .i64 (a_0.length : Int))),
      .slot 8 100000 100000 (fun _ _ => (slVP (dC 32) a_1)),
      .slot 9 100000 100000 (fun _ _ => (intVP .i64 (a_1.length : Int))),
      .slot 10 100000 100000 (fun _ _ => (boolVP (!decide ((a_0.length : Int) = (a_1.length : Int)))))] [0, 1, 2, 3, 4] [⟨[0], [], [2], [], some 6⟩, ⟨[2], [], [3], [0], some 7⟩, ⟨[1], [], [4], [0, 1], some 8⟩, ⟨[4], [], [5], [0, 1, 2], some 9⟩, ⟨[3, 5], [], [6], [0, 1, 2, 3], some 10⟩] [0, 1, 6] mixed hn hG h (by kernel_rfl) ?_ ?_
  · exact ⟨⟨rfl, fun β => (GOk.plain (op_move (opt 0 rfl)) rfl)⟩, ⟨rfl, fun β => (GOk.plain (op_len_sl Tryd.underlying46 (opt 0 rfl)) rfl)⟩, ⟨rfl, fun β => (GOk.plain (op_move (opt 0 rfl)) rfl)⟩, ⟨rfl, fun β => (GOk.plain (op_len_sl Tryd.underlying46 (opt 0 rfl)) rfl)⟩, ⟨rfl, fun β => (GOk.plain (op_bin bin_neq (opt 0 rfl) (opt 1 rfl)) rfl)⟩, trivial⟩
  clear h
  intro β a w h
  change SatL c [.slot 0 (slVP (dC 32) a_0), .slot 1 (slVP (dC 32) a_1), .slot 10 (boolVP (!decide ((a_0.length : Int) = (a_1.length : Int))))] a w at h
  clear β
  show Code.wp Tryd.prog _ _ a w
  refine cond_L h 2 rfl (fun hb1 => ?_) (fun hb1 => ?_)
  · replace hF := tt_of hb1 hF
    replace h := h.sub [] (by rfl)
    change SatL c [] a w at h
    refine wp_seq ?_
    refine region_do (n := 26) [.slot 4 100000 100000 (fun _ _ => (boolVP false))] [0] [⟨[], [], [0], [], some 4⟩] [0] mixed hn hG h (by kernel_rfl) ?_ ?_
    · exact ⟨⟨rfl, fun β => (GOk.plain (op_assign (opc (bc _))) rfl)⟩, trivial⟩
    clear h
    intro β a w h
    change SatL c [.slot 4 (boolVP false)] a w at h
    clear β
    show Code.wp Tryd.prog _ _ a w
    refine wp_ret ?_
    obtain rfl := Option.some.inj hF
    exact ⟨.inl rfl, ret1 h Tryd.results37 (r_tmp 0 rfl) [] [] rfl rfl rfl⟩
  · replace hF := ff_of hb1 hF
    replace h := h.sub [0, 1] (by rfl)
    change SatL c [.slot 0 (slVP (dC 32) a_0), .slot 1 (slVP (dC 32) a_1)] a w at h
    refine wp_skip ?_
    show Code.wp Tryd.prog _ _ a w
    refine wp_seq ?_
    refine wp_seq ?_
    refine region_do (n := 26) [.slot 11 100000 100000 (fun _ _ => (slVP (dC 32) a_0)),
      .slot 12 100000 100000 (fun _ _ => (intVP .i64 (a_0.length : Int))),
      .slot 13 100000 100000 (fun _ _ => (intVP .i64 0))] [0, 1, 2] [⟨[0], [], [2], [], some 11⟩, ⟨[2], [], [3], [0], some 12⟩, ⟨[], [], [4], [0, 1], some 13⟩] [0, 1, 3, 4] mixed hn hG h (by kernel_rfl) ?_ ?_
    · exact ⟨⟨rfl, fun β => (GOk.plain (op_move (opt 0 rfl)) rfl)⟩, ⟨rfl, fun β => (GOk.plain (op_len_sl Tryd.underlying46 (opt 0 rfl)) rfl)⟩, ⟨rfl, fun β => (GOk.plain (op_move (opc (ic (by decide)))) rfl)⟩, trivial⟩
    clear h
    intro β a w h
    change SatL c [.slot 0 (slVP (dC 32) a_0), .slot 1 (slVP (dC 32) a_1), .slot 12 (intVP .i64 (a_0.length : Int)), .slot 13 (intVP .i64 0)] a w at h
    clear β
    show Code.wp Tryd.prog _ _ a w
    refine wp_block ?_
    obtain ⟨cr16, hl17, hF⟩ := bind_some hF
    refine wp_mono (wp_loopN (R := Bool) (S := Int) (fun s a w => SatL c [.slot 0 (slVP (dC 32) a_0), .slot 1 (slVP (dC 32) a_1), .slot 12 (intVP .i64 (a_0.length : Int)), .slot 13 (intVP .i64 s)] a w) (fun res e a w => match res with | .next s => e = .exit 0 ∧ SatL c [] a w | .ret r => e = .ret ∧ RetOk Tryd.prog Tryd.f37 c (boolVP r) (fun _ => []) a w) ?_ _ 0 _ _ _ (h.sub [0, 1, 2, 3] (by rfl)) hl17) ?_
    · clear hl17 hF h
      intro x6 a w o h hF
      change ref03_SameList.b1 a_0 a_1 x6 = some o at hF
      unfold ref03_SameList.b1 at hF
      change SatL c [.slot 0 (slVP (dC 32) a_0), .slot 1 (slVP (dC 32) a_1), .slot 12 (intVP .i64 (a_0.length : Int)), .slot 13 (intVP .i64 x6)] a w at h
      refine wp_seq ?_
      refine region_do (n := 26) [.slot 14 100000 100000 (fun _ _ => (boolVP (decide (x6 < (a_0.length : Int)))))] [0] [⟨[3, 2], [], [4], [], some 14⟩] [0, 1, 2, 3, 4] mixed hn hG h (by kernel_rfl) ?_ ?_
      · exact ⟨⟨rfl, fun β => (GOk.plain (op_bin bin_lss (opt 0 rfl) (opt 1 rfl)) rfl)⟩, trivial⟩
      clear h
      intro β a w h
      change SatL c [.slot 0 (slVP (dC 32) a_0), .slot 1 (slVP (dC 32) a_1), .slot 12 (intVP .i64 (a_0.length : Int)), .slot 13 (intVP .i64 x6), .slot 14 (boolVP (decide (x6 < (a_0.length : Int))))] a w at h
      clear β
      show Code.wp Tryd.prog _ _ a w
      refine wp_seq ?_
      refine cond_L h 4 rfl (fun hb12 => ?_) (fun hb12 => ?_)
      · replace hF := tt_of hb12 hF
        replace h := h.sub [0, 1, 2, 3] (by rfl)
        change SatL c [.slot 0 (slVP (dC 32) a_0), .slot 1 (slVP (dC 32) a_1), .slot 12 (intVP .i64 (a_0.length : Int)), .slot 13 (intVP .i64 x6)] a w at h
        refine wp_skip ?_
        show Code.wp Tryd.prog _ _ a w
        refine wp_seq ?_
        refine wp_block ?_
        refine wp_seq ?_
        refine region_do (n := 26) [.slot 15 100000 100000 (fun _ _ => (intVP .i64 x6)),
      .slot 5 100000 100000 (fun _ _ => (intVP .i64 x6))] [0, 1] [⟨[3], [], [4], [], some 15⟩, ⟨[4], [], [5], [0], some 5⟩] [0, 1, 5, 2, 3] mixed hn hG h (by kernel_rfl) ?_ ?_
        · exact ⟨⟨rfl, fun β => (GOk.plain (op_move (opt 0 rfl)) rfl)⟩, ⟨rfl, fun β => (GOk.plain (op_assign (opt 0 rfl)) rfl)⟩, trivial⟩
        clear h
        intro β a w h
        change SatL c [.slot 0 (slVP (dC 32) a_0), .slot 1 (slVP (dC 32) a_1), .slot 5 (intVP .i64 x6), .slot 12 (intVP .i64 (a_0.length : Int)), .slot 13 (intVP .i64 x6)] a w at h
        clear β
        show Code.wp Tryd.prog _ _ a w
        refine wp_seq ?_
        obtain ⟨hv13, hF⟩ := ite_some hF
        obtain ⟨hv14, hF⟩ := ite_some hF
        refine region_do (n := 26) [.slot 16 100000 100000 (fun _ _ => (slVP (dC 32) a_0)),
      .slot 17 100000 100000 (fun _ _ => (intVP .i64 x6)),
      .slot 18 100000 100000 (fun _ _ => (ppVP [bytesCk 32 (a_0.getD x6.toNat default)])),
      .slot 19 100000 100000 (fun _ _ => (aggVP [bytesCk 32 (a_0.getD x6.toNat default)])),
      .slot 20 100000 100000 (fun _ _ => (slVP (dC 32) a_1)),
      .slot 21 100000 100000 (fun _ _ => (intVP .i64 x6)),
      .slot 22 100000 100000 (fun _ _ => (ppVP [bytesCk 32 (a_1.getD x6.toNat default)])),
      .slot 23 100000 100000 (fun _ _ => (aggVP [bytesCk 32 (a_1.getD x6.toNat default)])),
      .slot 24 100000 100000 (fun _ _ => (boolVP (!decide ((a_0.getD x6.toNat default) = (a_1.getD x6.toNat default)))))] [0, 1, 2, 3, 4, 5, 6, 7, 8] [⟨[0], [], [5], [], some 16⟩, ⟨[2], [], [6], [], some 17⟩, ⟨[5, 6], [], [7], [0, 1], some 18⟩, ⟨[7], [], [8], [0, 1, 2], some 19⟩, ⟨[1], [], [9], [], some 20⟩, ⟨[2], [], [10], [], some 21⟩, ⟨[9, 10], [], [11], [4, 5], some 22⟩, ⟨[11], [], [12], [4, 5, 6], some 23⟩, ⟨[8, 12], [], [13], [0, 1, 2, 3, 4, 5, 6, 7], some 24⟩] [0, 1, 3, 4, 13] mixed hn hG h (by kernel_rfl) ?_ ?_
        · exact ⟨⟨rfl, fun β => (GOk.plain (op_move (opt 0 rfl)) rfl)⟩, ⟨rfl, fun β => (GOk.plain (op_move (opt 0 rfl)) rfl)⟩, ⟨rfl, fun β => (GOk.plain (op_indexAddr_sl Tryd.underlying46 Tryd.sizeOf24 (lens_dC 32) (opt 0 rfl) (opt 1 rfl) hv13) rfl)⟩, ⟨rfl, fun β => (GOk.plain (op_load_pp [bytesCk 32 (a_0.getD x6.toNat default)] [] Tryd.isAgg24 Tryd.sizeOf24 (opt 0 rfl) rfl) rfl)⟩, ⟨rfl, fun β => (GOk.plain (op_move (opt 0 rfl)) rfl)⟩, ⟨rfl, fun β => (GOk.plain (op_move (opt 0 rfl)) rfl)⟩, ⟨rfl, fun β => (GOk.plain (op_indexAddr_sl Tryd.underlying46 Tryd.sizeOf24 (lens_dC 32) (opt 0 rfl) (opt 1 rfl) hv14) rfl)⟩, ⟨rfl, fun β => (GOk.plain (op_load_pp [bytesCk 32 (a_1.getD x6.toNat default)] [] Tryd.isAgg24 Tryd.sizeOf24 (opt 0 rfl) rfl) rfl)⟩, ⟨rfl, fun β => (GOk.plain (op_bin (bin_aneq Tryd.underlying24 Tryd.underlying5 Tryd.type5 Tryd.sizeOf5 Tryd.isAgg5 Tryd.eqGuardType24) (opt 0 rfl) (opt 1 rfl)) rfl)⟩, trivial⟩
        clear h
        intro β a w h
        change SatL c [.slot 0 (slVP (dC 32) a_0), .slot 1 (slVP (dC 32) a_1), .slot 12 (intVP .i64 (a_0.length : Int)), .slot 13 (intVP .i64 x6), .slot 24 (boolVP (!decide ((a_0.getD x6.toNat default) = (a_1.getD x6.toNat default))))] a w at h
        clear β
        show Code.wp Tryd.prog _ _ a w
        refine cond_L h 4 rfl (fun hb15 => ?_) (fun hb15 => ?_)
        · replace hF := tt_of hb15 hF
          replace h := h.sub [] (by rfl)
          change SatL c [] a w at h
          refine wp_seq ?_
          refine region_do (n := 26) [.slot 4 100000 100000 (fun _ _ => (boolVP false))] [0] [⟨[], [], [0], [], some 4⟩] [0] mixed hn hG h (by kernel_rfl) ?_ ?_
          · exact ⟨⟨rfl, fun β => (GOk.plain (op_assign (opc (bc _))) rfl)⟩, trivial⟩
          clear h
          intro β a w h
          change SatL c [.slot 4 (boolVP false)] a w at h
          clear β
          show Code.wp Tryd.prog _ _ a w
          refine wp_ret ?_
          obtain rfl := Option.some.inj hF
          exact ⟨ret_ne, rfl, ret1 h Tryd.results37 (r_tmp 0 rfl) [] [] rfl rfl rfl⟩
        · replace hF := ff_of hb15 hF
          replace h := h.sub [0, 1, 2, 3] (by rfl)
          change SatL c [.slot 0 (slVP (dC 32) a_0), .slot 1 (slVP (dC 32) a_1), .slot 12 (intVP .i64 (a_0.length : Int)), .slot 13 (intVP .i64 x6)] a w at h
          refine wp_skip ?_
          show Code.wp Tryd.prog _ _ a w
          refine region_do (n := 26) [.slot 25 100000 100000 (fun _ _ => (intVP .i64 (IntKind.wrap .i64 (x6 + 1)))),
      .slot 13 100000 100000 (fun _ _ => (intVP .i64 (IntKind.wrap .i64 (x6 + 1))))] [0, 1] [⟨[3], [], [4], [], some 25⟩, ⟨[4], [3], [5], [0], some 13⟩] [0, 1, 2, 5] mixed hn hG h (by kernel_rfl) ?_ ?_
          · exact ⟨⟨rfl, fun β => (GOk.plain (op_bin bin_add (opt 0 rfl) (opc (ic (by decide)))) rfl)⟩, ⟨rfl, fun β => (GOk.drop _ (GOk.plain (op_move (opt 0 rfl)) rfl))⟩, trivial⟩
          clear h
          intro β a w h
          change SatL c [.slot 0 (slVP (dC 32) a_0), .slot 1 (slVP (dC 32) a_1), .slot 12 (intVP .i64 (a_0.length : Int)), .slot 13 (intVP .i64 (IntKind.wrap .i64 (x6 + 1)))] a w at h
          clear β
          obtain rfl := Option.some.inj hF
          exact ⟨rfl, h.sub [0, 1, 2, 3] (by rfl)⟩
      · replace hF := ff_of hb12 hF
        replace h := h.sub [0, 1, 2, 3] (by rfl)
        change SatL c [.slot 0 (slVP (dC 32) a_0), .slot 1 (slVP (dC 32) a_1), .slot 12 (intVP .i64 (a_0.length : Int)), .slot 13 (intVP .i64 x6)] a w at h
        refine wp_exit ?_
        obtain rfl := Option.some.inj hF
        exact ⟨exit_ne _, rfl, h.sub [] (by rfl)⟩
    · clear hl17
      intro e a w hq
      cases cr16 with
      | ret r18 =>
        obtain ⟨rfl, hq⟩ := hq
        obtain rfl := Option.some.inj hF
        exact ⟨.inl rfl, hq⟩
      | next y20 =>
        obtain ⟨rfl, h⟩ := hq
        change SatL c [] a w at h
        refine inBlock_at ?_
        show Code.wp Tryd.prog _ _ a w
        refine wp_seq ?_
        refine region_do (n := 26) [.slot 4 100000 100000 (fun _ _ => (boolVP true))] [0] [⟨[], [], [0], [], some 4⟩] [0] mixed hn hG h (by kernel_rfl) ?_ ?_
        · exact ⟨⟨rfl, fun β => (GOk.plain (op_assign (opc (bc _))) rfl)⟩, trivial⟩
        clear h
        intro β a w h
        change SatL c [.slot 4 (boolVP true)] a w at h
        clear β
        show Code.wp Tryd.prog _ _ a w
        refine wp_ret ?_
        obtain rfl := Option.some.inj hF
        exact ⟨.inl rfl, ret1 h Tryd.results37 (r_tmp 0 rfl) [] [] rfl rfl rfl⟩

def law05_LamportSigns.j2 (x21 : Bool) : Option Bool := some x21
def law05_LamportSigns.j1 (a_0 : List UInt8) (a_1 : List UInt8) (a_2 : Int) (a_3 : List (List UInt8)) (a_4 : List (List UInt8)) (x5 : Bool) : Option Bool := (if x5 = true then ((law05_awake).bind fun r7 => some r7) else ((digest_New).bind fun r8 => ((ref04_New).bind fun r9 => ((lamport_Sign (some r8) a_0 a_2 a_1).bind fun r12 => ((ref05_Sign (some r9) a_0 a_2 a_1).bind fun r13 => ((lamport_Opened r12.2.2 a_1 a_3 a_4).bind fun r14 => ((ref05_Opened r13.2.2 a_1 a_3 a_4).bind fun r16 => ((law05_awake).bind fun r18 => (if r18 = true then ((ref03_SameList r12.1 r13.1).bind fun r19 => (if r19 = true then ((ref03_SameList r12.2.1 r13.2.1).bind fun r20 => (if r20 = true then (if (decide (r14.1 = r16.1)) = true then law05_LamportSigns.j2 (r14.2.1 == r16.2.1) else law05_LamportSigns.j2 false) else law05_LamportSigns.j2 false)) else law05_LamportSigns.j2 false)) else law05_LamportSigns.j2 false)))))))))
def law05_LamportSigns (a_0 : List UInt8) (a_1 : List UInt8) (a_2 : Int) (a_3 : List (List UInt8)) (a_4 : List (List UInt8)) : Option Bool := ((law05_awake).bind fun r3 => (if (!r3) = true then some false else (if (decide ((100 : Int) < (a_3.length : Int))) = true then law05_LamportSigns.j1 a_0 a_1 a_2 a_3 a_4 true else law05_LamportSigns.j1 a_0 a_1 a_2 a_3 a_4 (decide ((100 : Int) < (a_4.length : Int))))))
set_option maxHeartbeats 4000000 in
theorem law05_LamportSigns_ok {a_0 : List UInt8} {a_1 : List UInt8} {a_2 : Int} {a_3 : List (List UInt8)} {a_4 : List (List UInt8)} {r : Bool} (hF : law05_LamportSigns a_0 a_1 a_2 a_3 a_4 = some r) : CallOk Tryd.prog KG 10 [(aggVP [bytesCk 32 a_0]), (aggVP [bytesCk 32 a_1]), (intVP .i64 a_2), (slVP (dC 32) a_3), (slVP (dC 32) a_4)] [] (fun _ => []) (boolVP r) := by
  refine CallOk.intro 87 Tryd.func10 rfl Tryd.ntmps10 (Nat.le_of_ble_eq_true rfl) ?_
  intro c a w hG hn h
  unfold law05_LamportSigns at hF
  change SatL c [.slot 0 (aggVP [bytesCk 32 a_0]), .slot 1 (aggVP [bytesCk 32 a_1]), .slot 2 (intVP .i64 a_2), .slot 3 (slVP (dC 32) a_3), .slot 4 (slVP (dC 32) a_4)] a w at h
  refine wp_seq ?_
  refine region_do (n := 87) [.slot 5 0 100000 (fun v1_ _ => (lpVP v1_ 0)),
      .res 0 100000 (fun v1_ _ => (lb (v1_) 24 [bytesCk 32 a_0])),
      .slot 6 1 100000 (fun v1_ _ => (lpVP v1_ 0)),
      .res 1 100000 (fun v1_ _ => (lb (v1_) 24 [bytesCk 32 a_1])),
      .slot 10 100000 100000 (fun _ _ => (boolVP false))] [0, 0, 1, 1, 2] [⟨[0], [], [5, 6], [], some 5⟩, ⟨[1], [], [7, 8], [0], some 6⟩, ⟨[], [], [9], [0, 1], some 10⟩] [2, 3, 4, 5, 7, 6, 8] mixed hn hG h (by kernel_rfl) ?_ ?_
  · exact ⟨⟨rfl, fun β => (GOk.plain (op_box (opt 0 rfl) (cells_agg _)) rfl)⟩, ⟨rfl, fun β => (GOk.plain (op_box (opt 0 rfl) (cells_agg _)) rfl)⟩, ⟨rfl, fun β => (GOk.plain (op_assign (opc (bc _))) rfl)⟩, trivial⟩
  clear h
  intro β a w h
  change SatL c [.slot 2 (intVP .i64 a_2), .slot 3 (slVP (dC 32) a_3), .slot 4 (slVP (dC 32) a_4), .slot 5 (lpVP (β 0) 0), .slot 6 (lpVP (β 1) 0), .res (lb (β 0) 24 [bytesCk 32 a_0]), .res (lb (β 1) 24 [bytesCk 32 a_1])] a w at h
  generalize β 0 = p1 at h
  generalize β 1 = p2 at h
  clear β
  show Code.wp Tryd.prog _ _ a w
  refine wp_seq ?_
  refine wp_seq ?_
  obtain ⟨r3, hr3, hF⟩ := bind_some hF
  refine region_do (n := 87) [.slot 21 100000 100000 (fun _ _ => (boolVP r3)),
      .slot 22 100000 100000 (fun _ _ => (boolVP (!r3)))] [0, 1] [⟨[], [], [7], [], some 21⟩, ⟨[7], [], [8], [0], some 22⟩] [0, 1, 2, 3, 4, 8, 5, 6] mixed hn hG h (by kernel_rfl) ?_ ?_
  · exact ⟨⟨rfl, fun β => (GOk.plain (op_call Tryd.call24 (law05_awake_ok hr3) trivial) rfl)⟩, ⟨rfl, fun β => (GOk.plain (op_un (un_not _) (opt 0 rfl)) rfl)⟩, trivial⟩
  clear h
  intro β a w h
  change SatL c [.slot 2 (intVP .i64 a_2), .slot 3 (slVP (dC 32) a_3), .slot 4 (slVP (dC 32) a_4), .slot 5 (lpVP p1 0), .slot 6 (lpVP p2 0), .slot 22 (boolVP (!r3)), .res (lb p1 24 [bytesCk 32 a_0]), .res (lb p2 24 [bytesCk 32 a_1])] a w at h
  clear β
  show Code.wp Tryd.prog _ _ a w
  refine cond_L h 5 rfl (fun hb4 => ?_) (fun hb4 => ?_)
  · replace hF := tt_of hb4 hF
    replace h := h.sub [] (by rfl)
    change SatL c [] a w at h
    refine wp_seq ?_
    refine region_do (n := 87) [.slot 10 100000 100000 (fun _ _ => (boolVP false))] [0] [⟨[], [], [0], [], some 10⟩] [0] mixed hn hG h (by kernel_rfl) ?_ ?_
    · exact ⟨⟨rfl, fun β => (GOk.plain (op_assign (opc (bc _))) rfl)⟩, trivial⟩
    clear h
    intro β a w h
    change SatL c [.slot 10 (boolVP false)] a w at h
    clear β
    show Code.wp Tryd.prog _ _ a w
    refine wp_ret ?_
    obtain rfl := Option.some.inj hF
    exact ⟨.inl rfl, ret1 h Tryd.results10 (r_tmp 0 rfl) [] [] rfl rfl rfl⟩
  · replace hF := ff_of hb4 hF
    replace h := h.sub [0, 1, 2, 3, 4, 6, 7] (by rfl)
    change SatL c [.slot 2 (intVP .i64 a_2), .slot 3 (slVP (dC 32) a_3), .slot 4 (slVP (dC 32) a_4), .slot 5 (lpVP p1 0), .slot 6 (lpVP p2 0), .res (lb p1 24 [bytesCk 32 a_0]), .res (lb p2 24 [bytesCk 32 a_1])] a w at h
    refine wp_skip ?_
    show Code.wp Tryd.prog _ _ a w
    refine wp_seq ?_
    refine wp_seq ?_
    refine wp_cut (fun a w => ∃ (x5 : Bool), law05_LamportSigns.j1 a_0 a_1 a_2 a_3 a_4 x5 = some r ∧ SatL c [.slot 2 (intVP .i64 a_2), .slot 3 (slVP (dC 32) a_3), .slot 4 (slVP (dC 32) a_4), .slot 5 (lpVP p1 0), .slot 6 (lpVP p2 0), .slot 30 (boolVP x5), .res (lb p1 24 [bytesCk 32 a_0]), .res (lb p2 24 [bytesCk 32 a_1])] a w) ?_ ?_
    · rcases Bool.eq_false_or_eq_true (decide ((100 : Int) < (a_3.length : Int))) with hb26 | hb26
      · replace hF := tt_of hb26 hF
        refine region_do (n := 87) [.slot 23 100000 100000 (fun _ _ => (slVP (dC 32) a_3)),
      .slot 24 100000 100000 (fun _ _ => (intVP .i64 (a_3.length : Int))),
      .slot 25 100000 100000 (fun _ _ => (boolVP (decide ((100 : Int) < (a_3.length : Int))))),
      .slot 26 100000 100000 (fun _ _ => (boolVP (decide ((100 : Int) < (a_3.length : Int))))),
      .slot 27 100000 100000 (fun _ _ => (eqVP undef)),
      .slot 28 100000 100000 (fun _ _ => (eqVP undef)),
      .slot 29 100000 100000 (fun _ _ => (eqVP undef)),
      .slot 30 100000 100000 (fun _ _ => (boolVP true))] [0, 1, 2, 3, 4, 5, 6, 7] [⟨[1], [], [7], [], some 23⟩, ⟨[7], [], [8], [0], some 24⟩, ⟨[8], [], [9], [0, 1], some 25⟩, ⟨[9], [], [10], [0, 1, 2], some 26⟩, ⟨[10], [], [11], [0, 1, 2, 3], some 27⟩, ⟨[10], [], [12], [0, 1, 2, 3, 4], some 28⟩, ⟨[10], [], [13], [0, 1, 2, 3, 4, 5], some 29⟩, ⟨[10], [], [14], [0, 1, 2, 3, 4, 5, 6], some 30⟩] [0, 1, 2, 3, 4, 14, 5, 6] mixed hn hG h (by kernel_rfl) ?_ ?_
        · exact ⟨⟨rfl, fun β => (GOk.plain (op_move (opt 0 rfl)) rfl)⟩, ⟨rfl, fun β => (GOk.plain (op_len_sl Tryd.underlying46 (opt 0 rfl)) rfl)⟩, ⟨rfl, fun β => (GOk.plain (op_bin bin_gtr (opt 0 rfl) (opc (ic (by decide)))) rfl)⟩, ⟨rfl, fun β => (GOk.plain (op_move (opt 0 rfl)) rfl)⟩, ⟨rfl, fun β => (GOk.off_v (want := false) hb26 rfl rfl rfl rfl)⟩, ⟨rfl, fun β => (GOk.off_v (want := false) hb26 rfl rfl rfl rfl)⟩, ⟨rfl, fun β => (GOk.off_v (want := false) hb26 rfl rfl rfl rfl)⟩, ⟨rfl, fun β => (GOk.plain (op_pick_t hb26 (opt 0 rfl) (opc (bc _))) rfl)⟩, trivial⟩
        clear h
        intro β a w h
        change SatL c [.slot 2 (intVP .i64 a_2), .slot 3 (slVP (dC 32) a_3), .slot 4 (slVP (dC 32) a_4), .slot 5 (lpVP p1 0), .slot 6 (lpVP p2 0), .slot 30 (boolVP true), .res (lb p1 24 [bytesCk 32 a_0]), .res (lb p2 24 [bytesCk 32 a_1])] a w at h
        clear β
        exact ⟨true, hF, h.sub [0, 1, 2, 3, 4, 5, 6, 7] (by rfl)⟩
      · replace hF := ff_of hb26 hF
        refine region_do (n := 87) [.slot 23 100000 100000 (fun _ _ => (slVP (dC 32) a_3)),
      .slot 24 100000 100000 (fun _ _ => (intVP .i64 (a_3.length : Int))),
      .slot 25 100000 100000 (fun _ _ => (boolVP (decide ((100 : Int) < (a_3.length : Int))))),
      .slot 26 100000 100000 (fun _ _ => (boolVP (decide ((100 : Int) < (a_3.length : Int))))),
      .slot 27 100000 100000 (fun _ _ => (slVP (dC 32) a_4)),
      .slot 28 100000 100000 (fun _ _ => (intVP .i64 (a_4.length : Int))),
      .slot 29 100000 100000 (fun _ _ => (boolVP (decide ((100 : Int) < (a_4.length : Int))))),
      .slot 30 100000 100000 (fun _ _ => (boolVP (decide ((100 : Int) < (a_4.length : Int)))))] [0, 1, 2, 3, 4, 5, 6, 7] [⟨[1], [], [7], [], some 23⟩, ⟨[7], [], [8], [0], some 24⟩, ⟨[8], [], [9], [0, 1], some 25⟩, ⟨[9], [], [10], [0, 1, 2], some 26⟩, ⟨[10, 2], [], [11], [0, 1, 2, 3], some 27⟩, ⟨[10, 11], [], [12], [0, 1, 2, 3, 4], some 28⟩, ⟨[10, 12], [], [13], [0, 1, 2, 3, 4, 5], some 29⟩, ⟨[10, 13], [], [14], [0, 1, 2, 3, 4, 5, 6], some 30⟩] [0, 1, 2, 3, 4, 14, 5, 6] mixed hn hG h (by kernel_rfl) ?_ ?_
        · exact ⟨⟨rfl, fun β => (GOk.plain (op_move (opt 0 rfl)) rfl)⟩, ⟨rfl, fun β => (GOk.plain (op_len_sl Tryd.underlying46 (opt 0 rfl)) rfl)⟩, ⟨rfl, fun β => (GOk.plain (op_bin bin_gtr (opt 0 rfl) (opc (ic (by decide)))) rfl)⟩, ⟨rfl, fun β => (GOk.plain (op_move (opt 0 rfl)) rfl)⟩, ⟨rfl, fun β => (GOk.on_eq hb26 rfl rfl rfl (op_move (opt 0 rfl)))⟩, ⟨rfl, fun β => (GOk.on_eq hb26 rfl rfl rfl (op_len_sl Tryd.underlying46 (opt 0 rfl)))⟩, ⟨rfl, fun β => (GOk.on_eq hb26 rfl rfl rfl (op_bin bin_gtr (opt 0 rfl) (opc (ic (by decide)))))⟩, ⟨rfl, fun β => (GOk.plain (op_pick_f hb26 (opt 0 rfl) (opt 1 rfl)) rfl)⟩, trivial⟩
        clear h
        intro β a w h
        change SatL c [.slot 2 (intVP .i64 a_2), .slot 3 (slVP (dC 32) a_3), .slot 4 (slVP (dC 32) a_4), .slot 5 (lpVP p1 0), .slot 6 (lpVP p2 0), .slot 30 (boolVP (decide ((100 : Int) < (a_4.length : Int)))), .res (lb p1 24 [bytesCk 32 a_0]), .res (lb p2 24 [bytesCk 32 a_1])] a w at h
        clear β
        exact ⟨decide ((100 : Int) < (a_4.length : Int)), hF, h.sub [0, 1, 2, 3, 4, 5, 6, 7] (by rfl)⟩
    · clear h hF
      rintro a w ⟨x5, hF, h⟩
      unfold law05_LamportSigns.j1 at hF
      show Code.wp Tryd.prog _ _ a w
      refine cond_L h 5 rfl (fun hb6 => ?_) (fun hb6 => ?_)
      · replace hF := tt_of hb6 hF
        replace h := h.sub [] (by rfl)
        change SatL c [] a w at h
        refine wp_seq ?_
        obtain ⟨r7, hr7, hF⟩ := bind_some hF
        refine region_do (n := 87) [.slot 31 100000 100000 (fun _ _ => (boolVP r7)),
      .slot 10 100000 100000 (fun _ _ => (boolVP r7))] [0, 1] [⟨[], [], [0], [], some 31⟩, ⟨[0], [], [1], [0], some 10⟩] [1] mixed hn hG h (by kernel_rfl) ?_ ?_
        · exact ⟨⟨rfl, fun β => (GOk.plain (op_call Tryd.call24 (law05_awake_ok hr7) trivial) rfl)⟩, ⟨rfl, fun β => (GOk.plain (op_assign (opt 0 rfl)) rfl)⟩, trivial⟩
        clear h
        intro β a w h
        change SatL c [.slot 10 (boolVP r7)] a w at h
        clear β
        show Code.wp Tryd.prog _ _ a w
        refine wp_ret ?_
        obtain rfl := Option.some.inj hF
        exact ⟨.inl rfl, ret1 h Tryd.results10 (r_tmp 0 rfl) [] [] rfl rfl rfl⟩
      · replace hF := ff_of hb6 hF
        replace h := h.sub [0, 1, 2, 3, 4, 6, 7] (by rfl)
        change SatL c [.slot 2 (intVP .i64 a_2), .slot 3 (slVP (dC 32) a_3), .slot 4 (slVP (dC 32) a_4), .slot 5 (lpVP p1 0), .slot 6 (lpVP p2 0), .res (lb p1 24 [bytesCk 32 a_0]), .res (lb p2 24 [bytesCk 32 a_1])] a w at h
        refine wp_skip ?_
        show Code.wp Tryd.prog _ _ a w
        refine wp_seq ?_
        obtain ⟨r8, hr8, hF⟩ := bind_some hF
        obtain ⟨r9, hr9, hF⟩ := bind_some hF
        refine region_do (n := 87) [.slot 32 0 100000 (fun v1_ _ => (eqVP v1_)),
      .res 0 100000 (fun v1_ _ => (Log_e (v1_) (some r8))),
      .slot 33 1 100000 (fun v1_ _ => (eqVP v1_)),
      .res 1 100000 (fun v1_ _ => (RLog_e (v1_) (some r9))),
      .slot 11 0 100000 (fun v1_ _ => (eqVP v1_)),
      .slot 12 1 100000 (fun v1_ _ => (eqVP v1_))] [0, 0, 1, 1, 2, 3] [⟨[], [], [7, 8], [], some 32⟩, ⟨[], [], [9, 10], [0], some 33⟩, ⟨[7], [], [11], [0, 1], some 11⟩, ⟨[9], [], [12], [0, 1, 2], some 12⟩] [0, 1, 2, 3, 4, 11, 12, 5, 6, 8, 10] mixed hn hG h (by kernel_rfl) ?_ ?_
        · exact ⟨⟨rfl, fun β => (GOk.plain (op_callv Tryd.call13 (digest_New_ok hr8) trivial) rfl)⟩, ⟨rfl, fun β => (GOk.plain (op_callv Tryd.call17 (ref04_New_ok hr9) trivial) rfl)⟩, ⟨rfl, fun β => (GOk.plain (op_assign (V := (eqVP (β 0))) (opt 0 rfl)) rfl)⟩, ⟨rfl, fun β => (GOk.plain (op_assign (V := (eqVP (β 1))) (opt 0 rfl)) rfl)⟩, trivial⟩
        clear h
        intro β a w h
        change SatL c [.slot 2 (intVP .i64 a_2), .slot 3 (slVP (dC 32) a_3), .slot 4 (slVP (dC 32) a_4), .slot 5 (lpVP p1 0), .slot 6 (lpVP p2 0), .slot 11 (eqVP (β 0)), .slot 12 (eqVP (β 1)), .res (lb p1 24 [bytesCk 32 a_0]), .res (lb p2 24 [bytesCk 32 a_1]), .res (Log_e (β 0) (some r8)), .res (RLog_e (β 1) (some r9))] a w at h
        generalize β 0 = p10 at h
        generalize β 1 = p11 at h
        clear β
        show Code.wp Tryd.prog _ _ a w
        refine wp_seq ?_
        obtain ⟨r12, hr12, hF⟩ := bind_some hF
        refine region_do (n := 87) [.slot 35 100000 100000 (fun _ _ => (eqVP p10)),
      .slot 36 100000 100000 (fun _ _ => (aggVP [bytesCk 32 a_0])),
      .slot 37 100000 100000 (fun _ _ => (intVP .i64 a_2)),
      .slot 38 100000 100000 (fun _ _ => (aggVP [bytesCk 32 a_1])),
      .slot 39 100000 100000 (fun _ _ => (tupVP [(slVP (dC 32) r12.1), (slVP (dC 32) r12.2.1)])),
      .res 100000 100000 (fun _ _ => (Log_e p10 r12.2.2)),
      .slot 34 100000 100000 (fun _ _ => (tupVP [(slVP (dC 32) r12.1), (slVP (dC 32) r12.2.1)])),
      .slot 40 100000 100000 (fun _ _ => (slVP (dC 32) r12.1)),
      .slot 41 100000 100000 (fun _ _ => (slVP (dC 32) r12.2.1)),
      .slot 13 100000 100000 (fun _ _ => (slVP (dC 32) r12.1)),
      .slot 14 100000 100000 (fun _ _ => (slVP (dC 32) r12.2.1))] [0, 1, 2, 3, 4, 4, 5, 6, 7, 8, 9] [⟨[5], [], [11], [], some 35⟩, ⟨[3, 7], [], [12], [0], some 36⟩, ⟨[0], [], [13], [0, 1], some 37⟩, ⟨[4, 8], [], [14], [0, 1, 2], some 38⟩, ⟨[11, 12, 13, 14], [9], [15, 16], [0, 1, 2, 3], some 39⟩, ⟨[15], [], [17], [0, 1, 2, 3, 4], some 34⟩, ⟨[17], [], [18], [0, 1, 2, 3, 4, 5], some 40⟩, ⟨[17], [], [19], [0, 1, 2, 3, 4, 5, 6], some 41⟩, ⟨[18], [], [20], [0, 1, 2, 3, 4, 5, 6, 7], some 13⟩, ⟨[19], [], [21], [0, 1, 2, 3, 4, 5, 6, 7, 8], some 14⟩] [0, 1, 2, 3, 4, 5, 6, 20, 21, 7, 8, 10, 16] mixed hn hG h (by kernel_rfl) ?_ ?_
        · exact ⟨⟨rfl, fun β => (GOk.plain (op_move (opt 0 rfl)) rfl)⟩, ⟨rfl, fun β => (GOk.plain (op_load_lb [] [bytesCk 32 a_0] [] 1 Tryd.isAgg24 Tryd.sizeOf24 (opt 0 rfl) rfl rfl rfl) rfl)⟩, ⟨rfl, fun β => (GOk.plain (op_move (opt 0 rfl)) rfl)⟩, ⟨rfl, fun β => (GOk.plain (op_load_lb [] [bytesCk 32 a_1] [] 1 Tryd.isAgg24 Tryd.sizeOf24 (opt 0 rfl) rfl rfl rfl) rfl)⟩, ⟨rfl, fun β => (GOk.plain (op_call Tryd.call25 (lamport_Sign_ok hr12) ⟨(opt 0 rfl), (opt 1 rfl), (opt 2 rfl), (opt 3 rfl), trivial⟩) rfl)⟩, ⟨rfl, fun β => (GOk.plain (op_move (opt 0 rfl)) rfl)⟩, ⟨rfl, fun β => (GOk.plain (op_extract (opt 0 rfl) rfl) rfl)⟩, ⟨rfl, fun β => (GOk.plain (op_extract (opt 0 rfl) rfl) rfl)⟩, ⟨rfl, fun β => (GOk.plain (op_assign (opt 0 rfl)) rfl)⟩, ⟨rfl, fun β => (GOk.plain (op_assign (opt 0 rfl)) rfl)⟩, trivial⟩
        clear h
        intro β a w h
        change SatL c [.slot 2 (intVP .i64 a_2), .slot 3 (slVP (dC 32) a_3), .slot 4 (slVP (dC 32) a_4), .slot 5 (lpVP p1 0), .slot 6 (lpVP p2 0), .slot 11 (eqVP p10), .slot 12 (eqVP p11), .slot 13 (slVP (dC 32) r12.1), .slot 14 (slVP (dC 32) r12.2.1), .res (lb p1 24 [bytesCk 32 a_0]), .res (lb p2 24 [bytesCk 32 a_1]), .res (RLog_e p11 (some r9)), .res (Log_e p10 r12.2.2)] a w at h
        clear β
        show Code.wp Tryd.prog _ _ a w
        refine wp_seq ?_
        obtain ⟨r13, hr13, hF⟩ := bind_some hF
        refine region_do (n := 87) [.slot 43 100000 100000 (fun _ _ => (eqVP p11)),
      .slot 44 100000 100000 (fun _ _ => (aggVP [bytesCk 32 a_0])),
      .slot 45 100000 100000 (fun _ _ => (intVP .i64 a_2)),
      .slot 46 100000 100000 (fun _ _ => (aggVP [bytesCk 32 a_1])),
      .slot 47 100000 100000 (fun _ _ => (tupVP [(slVP (dC 32) r13.1), (slVP (dC 32) r13.2.1)])),
      .res 100000 100000 (fun _ _ => (RLog_e p11 r13.2.2)),
      .slot 42 100000 100000 (fun _ _ => (tupVP [(slVP (dC 32) r13.1), (slVP (dC 32) r13.2.1)])),
      .slot 48 100000 100000 (fun _ _ => (slVP (dC 32) r13.1)),
      .slot 49 100000 100000 (fun _ _ => (slVP (dC 32) r13.2.1)),
      .slot 15 100000 100000 (fun _ _ => (slVP (dC 32) r13.1)),
      .slot 16 100000 100000 (fun _ _ => (slVP (dC 32) r13.2.1))] [0, 1, 2, 3, 4, 4, 5, 6, 7, 8, 9] [⟨[6], [], [13], [], some 43⟩, ⟨[3, 9], [], [14], [0], some 44⟩, ⟨[0], [], [15], [0, 1], some 45⟩, ⟨[4, 10], [], [16], [0, 1, 2], some 46⟩, ⟨[13, 14, 15, 16], [11], [17, 18], [0, 1, 2, 3], some 47⟩, ⟨[17], [], [19], [0, 1, 2, 3, 4], some 42⟩, ⟨[19], [], [20], [0, 1, 2, 3, 4, 5], some 48⟩, ⟨[19], [], [21], [0, 1, 2, 3, 4, 5, 6], some 49⟩, ⟨[20], [], [22], [0, 1, 2, 3, 4, 5, 6, 7], some 15⟩, ⟨[21], [], [23], [0, 1, 2, 3, 4, 5, 6, 7, 8], some 16⟩] [1, 2, 4, 5, 6, 7, 8, 22, 23, 10, 12, 18] mixed hn hG h (by kernel_rfl) ?_ ?_
        · exact ⟨⟨rfl, fun β => (GOk.plain (op_move (opt 0 rfl)) rfl)⟩, ⟨rfl, fun β => (GOk.plain (op_load_lb [] [bytesCk 32 a_0] [] 1 Tryd.isAgg24 Tryd.sizeOf24 (opt 0 rfl) rfl rfl rfl) rfl)⟩, ⟨rfl, fun β => (GOk.plain (op_move (opt 0 rfl)) rfl)⟩, ⟨rfl, fun β => (GOk.plain (op_load_lb [] [bytesCk 32 a_1] [] 1 Tryd.isAgg24 Tryd.sizeOf24 (opt 0 rfl) rfl rfl rfl) rfl)⟩, ⟨rfl, fun β => (GOk.plain (op_call Tryd.call36 (ref05_Sign_ok hr13) ⟨(opt 0 rfl), (opt 1 rfl), (opt 2 rfl), (opt 3 rfl), trivial⟩) rfl)⟩, ⟨rfl, fun β => (GOk.plain (op_move (opt 0 rfl)) rfl)⟩, ⟨rfl, fun β => (GOk.plain (op_extract (opt 0 rfl) rfl) rfl)⟩, ⟨rfl, fun β => (GOk.plain (op_extract (opt 0 rfl) rfl) rfl)⟩, ⟨rfl, fun β => (GOk.plain (op_assign (opt 0 rfl)) rfl)⟩, ⟨rfl, fun β => (GOk.plain (op_assign (opt 0 rfl)) rfl)⟩, trivial⟩
        clear h
        intro β a w h
        change SatL c [.slot 3 (slVP (dC 32) a_3), .slot 4 (slVP (dC 32) a_4), .slot 6 (lpVP p2 0), .slot 11 (eqVP p10), .slot 12 (eqVP p11), .slot 13 (slVP (dC 32) r12.1), .slot 14 (slVP (dC 32) r12.2.1), .slot 15 (slVP (dC 32) r13.1), .slot 16 (slVP (dC 32) r13.2.1), .res (lb p2 24 [bytesCk 32 a_1]), .res (Log_e p10 r12.2.2), .res (RLog_e p11 r13.2.2)] a w at h
        clear β
        show Code.wp Tryd.prog _ _ a w
        refine wp_seq ?_
        obtain ⟨r14, hr14, hF⟩ := bind_some hF
        refine region_do (n := 87) [.slot 51 100000 100000 (fun _ _ => (eqVP p10)),
      .slot 52 100000 100000 (fun _ _ => (aggVP [bytesCk 32 a_1])),
      .slot 53 100000 100000 (fun _ _ => (slVP (dC 32) a_3)),
      .slot 54 100000 100000 (fun _ _ => (slVP (dC 32) a_4)),
      .slot 55 100000 100000 (fun _ _ => (tupVP [(aggVP [bytesCk 32 r14.1]), (boolVP r14.2.1)])),
      .res 100000 100000 (fun _ _ => (Log_e p10 r14.2.2)),
      .slot 50 100000 100000 (fun _ _ => (tupVP [(aggVP [bytesCk 32 r14.1]), (boolVP r14.2.1)])),
      .slot 56 100000 100000 (fun _ _ => (aggVP [bytesCk 32 r14.1])),
      .slot 57 100000 100000 (fun _ _ => (boolVP r14.2.1)),
      .slot 17 8 100000 (fun v1_ _ => (lpVP v1_ 0)),
      .res 8 100000 (fun v1_ _ => (lb (v1_) 24 [bytesCk 32 (List.replicate 32 0)])),
      .res 8 100000 (fun v1_ _ => (lb (v1_) 24 [bytesCk 32 r14.1])),
      .slot 18 100000 100000 (fun _ _ => (boolVP r14.2.1))] [0, 1, 2, 3, 4, 4, 5, 6, 7, 8, 8, 9, 10] [⟨[3], [], [12], [], some 51⟩, ⟨[2, 9], [], [13], [0], some 52⟩, ⟨[0], [], [14], [0, 1], some 53⟩, ⟨[1], [], [15], [0, 1, 2], some 54⟩, ⟨[12, 13, 14, 15], [10], [16, 17], [0, 1, 2, 3], some 55⟩, ⟨[16], [], [18], [0, 1, 2, 3, 4], some 50⟩, ⟨[18], [], [19], [0, 1, 2, 3, 4, 5], some 56⟩, ⟨[18], [], [20], [0, 1, 2, 3, 4, 5, 6], some 57⟩, ⟨[], [], [21, 22], [0, 1, 2, 3, 4, 5, 6, 7], some 17⟩, ⟨[21, 19], [22], [23], [0, 1, 2, 3, 4, 5, 6, 7, 8], none⟩, ⟨[20], [], [24], [0, 1, 2, 3, 4, 5, 6, 7, 8, 9], some 18⟩] [0, 1, 2, 4, 5, 6, 7, 8, 21, 24, 9, 11, 17, 23] mixed hn hG h (by kernel_rfl) ?_ ?_
        · exact ⟨⟨rfl, fun β => (GOk.plain (op_move (opt 0 rfl)) rfl)⟩, ⟨rfl, fun β => (GOk.plain (op_load_lb [] [bytesCk 32 a_1] [] 1 Tryd.isAgg24 Tryd.sizeOf24 (opt 0 rfl) rfl rfl rfl) rfl)⟩, ⟨rfl, fun β => (GOk.plain (op_move (opt 0 rfl)) rfl)⟩, ⟨rfl, fun β => (GOk.plain (op_move (opt 0 rfl)) rfl)⟩, ⟨rfl, fun β => (GOk.plain (op_call Tryd.call26 (lamport_Opened_ok hr14) ⟨(opt 0 rfl), (opt 1 rfl), (opt 2 rfl), (opt 3 rfl), trivial⟩) rfl)⟩, ⟨rfl, fun β => (GOk.plain (op_move (opt 0 rfl)) rfl)⟩, ⟨rfl, fun β => (GOk.plain (op_extract (opt 0 rfl) rfl) rfl)⟩, ⟨rfl, fun β => (GOk.plain (op_extract (opt 0 rfl) rfl) rfl)⟩, ⟨rfl, fun β => (GOk.plain (op_alloc Tryd.zeroValue24 z24) rfl)⟩, ⟨rfl, fun β => (GOk.plain (op_store_lb [] [bytesCk 32 (List.replicate 32 0)] [] [bytesCk 32 r14.1] Tryd.sizeOf24 (opt 0 rfl) (opt 1 rfl) (cells_agg _) rfl rfl rfl) rfl)⟩, ⟨rfl, fun β => (GOk.plain (op_assign (opt 0 rfl)) rfl)⟩, trivial⟩
        clear h
        intro β a w h
        change SatL c [.slot 3 (slVP (dC 32) a_3), .slot 4 (slVP (dC 32) a_4), .slot 6 (lpVP p2 0), .slot 12 (eqVP p11), .slot 13 (slVP (dC 32) r12.1), .slot 14 (slVP (dC 32) r12.2.1), .slot 15 (slVP (dC 32) r13.1), .slot 16 (slVP (dC 32) r13.2.1), .slot 17 (lpVP (β 8) 0), .slot 18 (boolVP r14.2.1), .res (lb p2 24 [bytesCk 32 a_1]), .res (RLog_e p11 r13.2.2), .res (Log_e p10 r14.2.2), .res (lb (β 8) 24 [bytesCk 32 r14.1])] a w at h
        generalize β 8 = p15 at h
        clear β
        show Code.wp Tryd.prog _ _ a w
        refine wp_seq ?_
        obtain ⟨r16, hr16, hF⟩ := bind_some hF
        refine region_do (n := 87) [.slot 59 100000 100000 (fun _ _ => (eqVP p11)),
      .slot 60 100000 100000 (fun _ _ => (aggVP [bytesCk 32 a_1])),
      .slot 61 100000 100000 (fun _ _ => (slVP (dC 32) a_3)),
      .slot 62 100000 100000 (fun _ _ => (slVP (dC 32) a_4)),
      .slot 63 100000 100000 (fun _ _ => (tupVP [(aggVP [bytesCk 32 r16.1]), (boolVP r16.2.1)])),
      .res 100000 100000 (fun _ _ => (RLog_e p11 r16.2.2)),
      .slot 58 100000 100000 (fun _ _ => (tupVP [(aggVP [bytesCk 32 r16.1]), (boolVP r16.2.1)])),
      .slot 64 100000 100000 (fun _ _ => (aggVP [bytesCk 32 r16.1])),
      .slot 65 100000 100000 (fun _ _ => (boolVP r16.2.1)),
      .slot 19 8 100000 (fun v1_ _ => (lpVP v1_ 0)),
      .res 8 100000 (fun v1_ _ => (lb (v1_) 24 [bytesCk 32 (List.replicate 32 0)])),
      .res 8 100000 (fun v1_ _ => (lb (v1_) 24 [bytesCk 32 r16.1])),
      .slot 20 100000 100000 (fun _ _ => (boolVP r16.2.1))] [0, 1, 2, 3, 4, 4, 5, 6, 7, 8, 8, 9, 10] [⟨[3], [], [14], [], some 59⟩, ⟨[2, 10], [], [15], [0], some 60⟩, ⟨[0], [], [16], [0, 1], some 61⟩, ⟨[1], [], [17], [0, 1, 2], some 62⟩, ⟨[14, 15, 16, 17], [11], [18, 19], [0, 1, 2, 3], some 63⟩, ⟨[18], [], [20], [0, 1, 2, 3, 4], some 58⟩, ⟨[20], [], [21], [0, 1, 2, 3, 4, 5], some 64⟩, ⟨[20], [], [22], [0, 1, 2, 3, 4, 5, 6], some 65⟩, ⟨[], [], [23, 24], [0, 1, 2, 3, 4, 5, 6, 7], some 19⟩, ⟨[23, 21], [24], [25], [0, 1, 2, 3, 4, 5, 6, 7, 8], none⟩, ⟨[22], [], [26], [0, 1, 2, 3, 4, 5, 6, 7, 8, 9], some 20⟩] [4, 5, 6, 7, 8, 9, 23, 26, 12, 13, 19, 25] mixed hn hG h (by kernel_rfl) ?_ ?_
        · exact ⟨⟨rfl, fun β => (GOk.plain (op_move (opt 0 rfl)) rfl)⟩, ⟨rfl, fun β => (GOk.plain (op_load_lb [] [bytesCk 32 a_1] [] 1 Tryd.isAgg24 Tryd.sizeOf24 (opt 0 rfl) rfl rfl rfl) rfl)⟩, ⟨rfl, fun β => (GOk.plain (op_move (opt 0 rfl)) rfl)⟩, ⟨rfl, fun β => (GOk.plain (op_move (opt 0 rfl)) rfl)⟩, ⟨rfl, fun β => (GOk.plain (op_call Tryd.call30 (ref05_Opened_ok hr16) ⟨(opt 0 rfl), (opt 1 rfl), (opt 2 rfl), (opt 3 rfl), trivial⟩) rfl)⟩, ⟨rfl, fun β => (GOk.plain (op_move (opt 0 rfl)) rfl)⟩, ⟨rfl, fun β => (GOk.plain (op_extract (opt 0 rfl) rfl) rfl)⟩, ⟨rfl, fun β => (GOk.plain (op_extract (opt 0 rfl) rfl) rfl)⟩, ⟨rfl, fun β => (GOk.plain (op_alloc Tryd.zeroValue24 z24) rfl)⟩, ⟨rfl, fun β => (GOk.plain (op_store_lb [] [bytesCk 32 (List.replicate 32 0)] [] [bytesCk 32 r16.1] Tryd.sizeOf24 (opt 0 rfl) (opt 1 rfl) (cells_agg _) rfl rfl rfl) rfl)⟩, ⟨rfl, fun β => (GOk.plain (op_assign (opt 0 rfl)) rfl)⟩, trivial⟩
        clear h
        intro β a w h
        change SatL c [.slot 13 (slVP (dC 32) r12.1), .slot 14 (slVP (dC 32) r12.2.1), .slot 15 (slVP (dC 32) r13.1), .slot 16 (slVP (dC 32) r13.2.1), .slot 17 (lpVP p15 0), .slot 18 (boolVP r14.2.1), .slot 19 (lpVP (β 8) 0), .slot 20 (boolVP r16.2.1), .res (Log_e p10 r14.2.2), .res (lb p15 24 [bytesCk 32 r14.1]), .res (RLog_e p11 r16.2.2), .res (lb (β 8) 24 [bytesCk 32 r16.1])] a w at h
        generalize β 8 = p17 at h
        clear β
        show Code.wp Tryd.prog _ _ a w
        refine wp_seq ?_
        obtain ⟨r18, hr18, hF⟩ := bind_some hF
        refine wp_cut (fun a w => ∃ (x21 : Bool), law05_LamportSigns.j2 x21 = some r ∧ SatL c [.slot 10 (boolVP x21), .res (Log_e p10 r14.2.2), .res (RLog_e p11 r16.2.2)] a w) ?_ ?_
        · rcases Bool.eq_false_or_eq_true r18 with hb22 | hb22
          · replace hF := tt_of hb22 hF
            obtain ⟨r19, hr19, hF⟩ := bind_some hF
            rcases Bool.eq_false_or_eq_true r19 with hb23 | hb23
            · replace hF := tt_of hb23 hF
              obtain ⟨r20, hr20, hF⟩ := bind_some hF
              rcases Bool.eq_false_or_eq_true r20 with hb24 | hb24
              · replace hF := tt_of hb24 hF
                rcases Bool.eq_false_or_eq_true (decide (r14.1 = r16.1)) with hb25 | hb25
                · replace hF := tt_of hb25 hF
                  refine region_do (n := 87) [.slot 66 100000 100000 (fun _ _ => (boolVP r18)),
      .slot 67 100000 100000 (fun _ _ => (boolVP r18)),
      .slot 68 100000 100000 (fun _ _ => (slVP (dC 32) r12.1)),
      .slot 69 100000 100000 (fun _ _ => (slVP (dC 32) r13.1)),
      .slot 70 100000 100000 (fun _ _ => (boolVP r19)),
      .slot 71 100000 100000 (fun _ _ => (boolVP r19)),
      .slot 72 100000 100000 (fun _ _ => (boolVP r19)),
      .slot 73 100000 100000 (fun _ _ => (slVP (dC 32) r12.2.1)),
      .slot 74 100000 100000 (fun _ _ => (slVP (dC 32) r13.2.1)),
      .slot 75 100000 100000 (fun _ _ => (boolVP r20)),
      .slot 76 100000 100000 (fun _ _ => (boolVP r20)),
      .slot 77 100000 100000 (fun _ _ => (boolVP r20)),
      .slot 78 100000 100000 (fun _ _ => (aggVP [bytesCk 32 r14.1])),
      .slot 79 100000 100000 (fun _ _ => (aggVP [bytesCk 32 r16.1])),
      .slot 80 100000 100000 (fun _ _ => (boolVP (decide (r14.1 = r16.1)))),
      .slot 81 100000 100000 (fun _ _ => (boolVP (decide (r14.1 = r16.1)))),
      .slot 82 100000 100000 (fun _ _ => (boolVP (decide (r14.1 = r16.1)))),
      .slot 83 100000 100000 (fun _ _ => (boolVP r14.2.1)),
      .slot 84 100000 100000 (fun _ _ => (boolVP r16.2.1)),
      .slot 85 100000 100000 (fun _ _ => (boolVP (r14.2.1 == r16.2.1))),
      .slot 86 100000 100000 (fun _ _ => (boolVP (r14.2.1 == r16.2.1))),
      .slot 10 100000 100000 (fun _ _ => (boolVP (r14.2.1 == r16.2.1)))] [0, 1, 2, 3, 4, 5, 6, 7, 8, 9, 10, 11, 12, 13, 14, 15, 16, 17, 18, 19, 20, 21] [⟨[], [], [12], [], some 66⟩, ⟨[12], [], [13], [0], some 67⟩, ⟨[13, 0], [], [14], [0, 1], some 68⟩, ⟨[13, 2], [], [15], [0, 1, 2], some 69⟩, ⟨[13, 14, 15], [], [16], [0, 1, 2, 3], some 70⟩, ⟨[13, 16], [], [17], [0, 1, 2, 3, 4], some 71⟩, ⟨[17], [], [18], [0, 1, 2, 3, 4, 5], some 72⟩, ⟨[18, 1], [], [19], [0, 1, 2, 3, 4, 5, 6], some 73⟩, ⟨[18, 3], [], [20], [0, 1, 2, 3, 4, 5, 6, 7], some 74⟩, ⟨[18, 19, 20], [], [21], [0, 1, 2, 3, 4, 5, 6, 7, 8], some 75⟩, ⟨[18, 21], [], [22], [0, 1, 2, 3, 4, 5, 6, 7, 8, 9], some 76⟩, ⟨[22], [], [23], [0, 1, 2, 3, 4, 5, 6, 7, 8, 9, 10], some 77⟩, ⟨[23, 4, 9], [], [24], [0, 1, 2, 3, 4, 5, 6, 7, 8, 9, 10, 11], some 78⟩, ⟨[23, 6, 11], [], [25], [0, 1, 2, 3, 4, 5, 6, 7, 8, 9, 10, 11, 12], some 79⟩, ⟨[23, 24, 25], [], [26], [0, 1, 2, 3, 4, 5, 6, 7, 8, 9, 10, 11, 12, 13], some 80⟩, ⟨[23, 26], [], [27], [0, 1, 2, 3, 4, 5, 6, 7, 8, 9, 10, 11, 12, 13, 14], some 81⟩, ⟨[27], [], [28], [0, 1, 2, 3, 4, 5, 6, 7, 8, 9, 10, 11, 12, 13, 14, 15], some 82⟩, ⟨[28, 5], [], [29], [0, 1, 2, 3, 4, 5, 6, 7, 8, 9, 10, 11, 12, 13, 14, 15, 16], some 83⟩, ⟨[28, 7], [], [30], [0, 1, 2, 3, 4, 5, 6, 7, 8, 9, 10, 11, 12, 13, 14, 15, 16, 17], some 84⟩, ⟨[28, 29, 30], [], [31], [0, 1, 2, 3, 4, 5, 6, 7, 8, 9, 10, 11, 12, 13, 14, 15, 16, 17, 18], some 85⟩, ⟨[28, 31], [], [32], [0, 1, 2, 3, 4, 5, 6, 7, 8, 9, 10, 11, 12, 13, 14, 15, 16, 17, 18, 19], some 86⟩, ⟨[32], [], [33], [0, 1, 2, 3, 4, 5, 6, 7, 8, 9, 10, 11, 12, 13, 14, 15, 16, 17, 18, 19, 20], some 10⟩] [33, 8, 10] mixed hn hG h (by kernel_rfl) ?_ ?_
                  · exact ⟨⟨rfl, fun β => (GOk.plain (op_call Tryd.call24 (law05_awake_ok hr18) trivial) rfl)⟩, ⟨rfl, fun β => (GOk.plain (op_move (opt 0 rfl)) rfl)⟩, ⟨rfl, fun β => (GOk.on_eq hb22 rfl rfl rfl (op_move (opt 0 rfl)))⟩, ⟨rfl, fun β => (GOk.on_eq hb22 rfl rfl rfl (op_move (opt 0 rfl)))⟩, ⟨rfl, fun β => (GOk.on_eq hb22 rfl rfl rfl (op_call Tryd.call37 (ref03_SameList_ok hr19) ⟨(opt 0 rfl), (opt 1 rfl), trivial⟩))⟩, ⟨rfl, fun β => (GOk.plain (op_pick_t hb22 (opt 0 rfl) (opt 1 rfl)) rfl)⟩, ⟨rfl, fun β => (GOk.plain (op_move (opt 0 rfl)) rfl)⟩, ⟨rfl, fun β => (GOk.on_eq hb23 rfl rfl rfl (op_move (opt 0 rfl)))⟩, ⟨rfl, fun β => (GOk.on_eq hb23 rfl rfl rfl (op_move (opt 0 rfl)))⟩, ⟨rfl, fun β => (GOk.on_eq hb23 rfl rfl rfl (op_call Tryd.call37 (ref03_SameList_ok hr20) ⟨(opt 0 rfl), (opt 1 rfl), trivial⟩))⟩, ⟨rfl, fun β => (GOk.plain (op_pick_t hb23 (opt 0 rfl) (opt 1 rfl)) rfl)⟩, ⟨rfl, fun β => (GOk.plain (op_move (opt 0 rfl)) rfl)⟩, ⟨rfl, fun β => (GOk.on_eq hb24 rfl rfl rfl (op_load_lb [] [bytesCk 32 r14.1] [] 1 Tryd.isAgg24 Tryd.sizeOf24 (opt 0 rfl) rfl rfl rfl))⟩, ⟨rfl, fun β => (GOk.on_eq hb24 rfl rfl rfl (op_load_lb [] [bytesCk 32 r16.1] [] 1 Tryd.isAgg24 Tryd.sizeOf24 (opt 0 rfl) rfl rfl rfl))⟩, ⟨rfl, fun β => (GOk.on_eq hb24 rfl rfl rfl (op_bin (bin_aeql Tryd.underlying24 Tryd.underlying5 Tryd.type5 Tryd.sizeOf5 Tryd.isAgg5 Tryd.eqGuardType24) (opt 0 rfl) (opt 1 rfl)))⟩, ⟨rfl, fun β => (GOk.plain (op_pick_t hb24 (opt 0 rfl) (opt 1 rfl)) rfl)⟩, ⟨rfl, fun β => (GOk.plain (op_move (opt 0 rfl)) rfl)⟩, ⟨rfl, fun β => (GOk.on_eq hb25 rfl rfl rfl (op_move (opt 0 rfl)))⟩, ⟨rfl, fun β => (GOk.on_eq hb25 rfl rfl rfl (op_move (opt 0 rfl)))⟩, ⟨rfl, fun β => (GOk.on_eq hb25 rfl rfl rfl (op_bin (bin_beql Tryd.underlying4) (opt 0 rfl) (opt 1 rfl)))⟩, ⟨rfl, fun β => (GOk.plain (op_pick_t hb25 (opt 0 rfl) (opt 1 rfl)) rfl)⟩, ⟨rfl, fun β => (GOk.plain (op_assign (opt 0 rfl)) rfl)⟩, trivial⟩
                  clear h
                  intro β a w h
                  change SatL c [.slot 10 (boolVP (r14.2.1 == r16.2.1)), .res (Log_e p10 r14.2.2), .res (RLog_e p11 r16.2.2)] a w at h
                  clear β
                  exact ⟨r14.2.1 == r16.2.1, hF, h.sub [0, 1, 2] (by rfl)⟩
                · replace hF := ff_of hb25 hF
                  refine region_do (n := 87) [.slot 66 100000 100000 (fun _ _ => (boolVP r18)),
      .slot 67 100000 100000 (fun _ _ => (boolVP r18)),
      .slot 68 100000 100000 (fun _ _ => (slVP (dC 32) r12.1)),
      .slot 69 100000 100000 (fun _ _ => (slVP (dC 32) r13.1)),
      .slot 70 100000 100000 (fun _ _ => (boolVP r19)),
      .slot 71 100000 100000 (fun _ _ => (boolVP r19)),
      .slot 72 100000 100000 (fun _ _ => (boolVP r19)),
      .slot 73 100000 100000 (fun _ _ => (slVP (dC 32) r12.2.1)),
      .slot 74 100000 100000 (fun _ _ => (slVP (dC 32) r13.2.1)),
      .slot 75 100000 100000 (fun _ _ => (boolVP r20)),
      .slot 76 100000 100000 (fun _ _ => (boolVP r20)),
      .slot 77 100000 100000 (fun _ _ => (boolVP r20)),
      .slot 78 100000 100000 (fun _ _ => (aggVP [bytesCk 32 r14.1])),
      .slot 79 100000 100000 (fun _ _ => (aggVP [bytesCk 32 r16.1])),
      .slot 80 100000 100000 (fun _ _ => (boolVP (decide (r14.1 = r16.1)))),
      .slot 81 100000 100000 (fun _ _ => (boolVP (decide (r14.1 = r16.1)))),
      .slot 82 100000 100000 (fun _ _ => (boolVP (decide (r14.1 = r16.1)))),
      .slot 83 100000 100000 (fun _ _ => (eqVP undef)),
      .slot 84 100000 100000 (fun _ _ => (eqVP undef)),
      .slot 85 100000 100000 (fun _ _ => (eqVP undef)),
      .slot 86 100000 100000 (fun _ _ => (boolVP false)),
      .slot 10 100000 100000 (fun _ _ => (boolVP false))] [0, 1, 2, 3, 4, 5, 6, 7, 8, 9, 10, 11, 12, 13, 14, 15, 16, 17, 18, 19, 20, 21] [⟨[], [], [12], [], some 66⟩, ⟨[12], [], [13], [0], some 67⟩, ⟨[13, 0], [], [14], [0, 1], some 68⟩, ⟨[13, 2], [], [15], [0, 1, 2], some 69⟩, ⟨[13, 14, 15], [], [16], [0, 1, 2, 3], some 70⟩, ⟨[13, 16], [], [17], [0, 1, 2, 3, 4], some 71⟩, ⟨[17], [], [18], [0, 1, 2, 3, 4, 5], some 72⟩, ⟨[18, 1], [], [19], [0, 1, 2, 3, 4, 5, 6], some 73⟩, ⟨[18, 3], [], [20], [0, 1, 2, 3, 4, 5, 6, 7], some 74⟩, ⟨[18, 19, 20], [], [21], [0, 1, 2, 3, 4, 5, 6, 7, 8], some 75⟩, ⟨[18, 21], [], [22], [0, 1, 2, 3, 4, 5, 6, 7, 8, 9], some 76⟩, ⟨[22], [], [23], [0, 1, 2, 3, 4, 5, 6, 7, 8, 9, 10], some 77⟩, ⟨[23, 4, 9], [], [24], [0, 1, 2, 3, 4, 5, 6, 7, 8, 9, 10, 11], some 78⟩, ⟨[23, 6, 11], [], [25], [0, 1, 2, 3, 4, 5, 6, 7, 8, 9, 10, 11, 12], some 79⟩, ⟨[23, 24, 25], [], [26], [0, 1, 2, 3, 4, 5, 6, 7, 8, 9, 10, 11, 12, 13], some 80⟩, ⟨[23, 26], [], [27], [0, 1, 2, 3, 4, 5, 6, 7, 8, 9, 10, 11, 12, 13, 14], some 81⟩, ⟨[27], [], [28], [0, 1, 2, 3, 4, 5, 6, 7, 8, 9, 10, 11, 12, 13, 14, 15], some 82⟩, ⟨[28], [], [29], [0, 1, 2, 3, 4, 5, 6, 7, 8, 9, 10, 11, 12, 13, 14, 15, 16], some 83⟩, ⟨[28], [], [30], [0, 1, 2, 3, 4, 5, 6, 7, 8, 9, 10, 11, 12, 13, 14, 15, 16, 17], some 84⟩, ⟨[28], [], [31], [0, 1, 2, 3, 4, 5, 6, 7, 8, 9, 10, 11, 12, 13, 14, 15, 16, 17, 18], some 85⟩, ⟨[28], [], [32], [0, 1, 2, 3, 4, 5, 6, 7, 8, 9, 10, 11, 12, 13, 14, 15, 16, 17, 18, 19], some 86⟩, ⟨[32], [], [33], [0, 1, 2, 3, 4, 5, 6, 7, 8, 9, 10, 11, 12, 13, 14, 15, 16, 17, 18, 19, 20], some 10⟩] [33, 8, 10] mixed hn hG h (by kernel_rfl) ?_ ?_
                  · exact ⟨⟨rfl, fun β => (GOk.plain (op_call Tryd.call24 (law05_awake_ok hr18) trivial) rfl)⟩, ⟨rfl, fun β => (GOk.plain (op_move (opt 0 rfl)) rfl)⟩, ⟨rfl, fun β => (GOk.on_eq hb22 rfl rfl rfl (op_move (opt 0 rfl)))⟩, ⟨rfl, fun β => (GOk.on_eq hb22 rfl rfl rfl (op_move (opt 0 rfl)))⟩, ⟨rfl, fun β => (GOk.on_eq hb22 rfl rfl rfl (op_call Tryd.call37 (ref03_SameList_ok hr19) ⟨(opt 0 rfl), (opt 1 rfl), trivial⟩))⟩, ⟨rfl, fun β => (GOk.plain (op_pick_t hb22 (opt 0 rfl) (opt 1 rfl)) rfl)⟩, ⟨rfl, fun β => (GOk.plain (op_move (opt 0 rfl)) rfl)⟩, ⟨rfl, fun β => (GOk.on_eq hb23 rfl rfl rfl (op_move (opt 0 rfl)))⟩, ⟨rfl, fun β => (GOk.on_eq hb23 rfl rfl rfl (op_move (opt 0 rfl)))⟩, ⟨rfl, fun β => (GOk.on_eq hb23 rfl rfl rfl (op_call Tryd.call37 (ref03_SameList_ok hr20) ⟨(opt 0 rfl), (opt 1 rfl), trivial⟩))⟩, ⟨rfl, fun β => (GOk.plain (op_pick_t hb23 (opt 0 rfl) (opt 1 rfl)) rfl)⟩, ⟨rfl, fun β => (GOk.plain (op_move (opt 0 rfl)) rfl)⟩, ⟨rfl, fun β => (GOk.on_eq hb24 rfl rfl rfl (op_load_lb [] [bytesCk 32 r14.1] [] 1 Tryd.isAgg24 Tryd.sizeOf24 (opt 0 rfl) rfl rfl rfl))⟩, ⟨rfl, fun β => (GOk.on_eq hb24 rfl rfl rfl (op_load_lb [] [bytesCk 32 r16.1] [] 1 Tryd.isAgg24 Tryd.sizeOf24 (opt 0 rfl) rfl rfl rfl))⟩, ⟨rfl, fun β => (GOk.on_eq hb24 rfl rfl rfl (op_bin (bin_aeql Tryd.underlying24 Tryd.underlying5 Tryd.type5 Tryd.sizeOf5 Tryd.isAgg5 Tryd.eqGuardType24) (opt 0 rfl) (opt 1 rfl)))⟩, ⟨rfl, fun β => (GOk.plain (op_pick_t hb24 (opt 0 rfl) (opt 1 rfl)) rfl)⟩, ⟨rfl, fun β => (GOk.plain (op_move (opt 0 rfl)) rfl)⟩, ⟨rfl, fun β => (GOk.off_v (want := true) hb25 rfl rfl rfl rfl)⟩, ⟨rfl, fun β => (GOk.off_v (want := true) hb25 rfl rfl rfl rfl)⟩, ⟨rfl, fun β => (GOk.off_v (want := true) hb25 rfl rfl rfl rfl)⟩, ⟨rfl, fun β => (GOk.plain (op_pick_f hb25 (opt 0 rfl) (opc (bc _))) rfl)⟩, ⟨rfl, fun β => (GOk.plain (op_assign (opt 0 rfl)) rfl)⟩, trivial⟩
                  clear h
                  intro β a w h
                  change SatL c [.slot 10 (boolVP false), .res (Log_e p10 r14.2.2), .res (RLog_e p11 r16.2.2)] a w at h
                  clear β
                  exact ⟨false, hF, h.sub [0, 1, 2] (by rfl)⟩
              · replace hF := ff_of hb24 hF
                refine region_do (n := 87) [.slot 66 100000 100000 (fun _ _ => (boolVP r18)),
      .slot 67 100000 100000 (fun _ _ => (boolVP r18)),
      .slot 68 100000 100000 (fun _ _ => (slVP (dC 32) r12.1)),
      .slot 69 100000 100000 (fun _ _ => (slVP (dC 32) r13.1)),
      .slot 70 100000 100000 (fun _ _ => (boolVP r19)),
      .slot 71 100000 100000 (fun _ _ => (boolVP r19)),
      .slot 72 100000 100000 (fun _ _ => (boolVP r19)),
      .slot 73 100000 100000 (fun _ _ => (slVP (dC 32) r12.2.1)),
      .slot 74 100000 100000 (fun _ _ => (slVP (dC 32) r13.2.1)),
      .slot 75 100000 100000 (fun _ _ => (boolVP r20)),
      .slot 76 100000 100000 (fun _ _ => (boolVP r20)),
      .slot 77 100000 100000 (fun _ _ => (boolVP r20)),
      .slot 78 100000 100000 (fun _ _ => (eqVP undef)),
      .slot 79 100000 100000 (fun _ _ => (eqVP undef)),
      .slot 80 100000 100000 (fun _ _ => (eqVP undef)),
      .slot 81 100000 100000 (fun _ _ => (boolVP false)),
      .slot 82 100000 100000 (fun _ _ => (boolVP false)),
      .slot 83 100000 100000 (fun _ _ => (eqVP undef)),
      .slot 84 100000 100000 (fun _ _ => (eqVP undef)),
      .slot 85 100000 100000 (fun _ _ => (eqVP undef)),
      .slot 86 100000 100000 (fun _ _ => (boolVP false)),
      .slot 10 100000 100000 (fun _ _ => (boolVP false))] [0, 1, 2, 3, 4, 5, 6, 7, 8, 9, 10, 11, 12, 13, 14, 15, 16, 17, 18, 19, 20, 21] [⟨[], [], [12], [], some 66⟩, ⟨[12], [], [13], [0], some 67⟩, ⟨[13, 0], [], [14], [0, 1], some 68⟩, ⟨[13, 2], [], [15], [0, 1, 2], some 69⟩, ⟨[13, 14, 15], [], [16], [0, 1, 2, 3], some 70⟩, ⟨[13, 16], [], [17], [0, 1, 2, 3, 4], some 71⟩, ⟨[17], [], [18], [0, 1, 2, 3, 4, 5], some 72⟩, ⟨[18, 1], [], [19], [0, 1, 2, 3, 4, 5, 6], some 73⟩, ⟨[18, 3], [], [20], [0, 1, 2, 3, 4, 5, 6, 7], some 74⟩, ⟨[18, 19, 20], [], [21], [0, 1, 2, 3, 4, 5, 6, 7, 8], some 75⟩, ⟨[18, 21], [], [22], [0, 1, 2, 3, 4, 5, 6, 7, 8, 9], some 76⟩, ⟨[22], [], [23], [0, 1, 2, 3, 4, 5, 6, 7, 8, 9, 10], some 77⟩, ⟨[23], [], [24], [0, 1, 2, 3, 4, 5, 6, 7, 8, 9, 10, 11], some 78⟩, ⟨[23], [], [25], [0, 1, 2, 3, 4, 5, 6, 7, 8, 9, 10, 11, 12], some 79⟩, ⟨[23], [], [26], [0, 1, 2, 3, 4, 5, 6, 7, 8, 9, 10, 11, 12, 13], some 80⟩, ⟨[23], [], [27], [0, 1, 2, 3, 4, 5, 6, 7, 8, 9, 10, 11, 12, 13, 14], some 81⟩, ⟨[27], [], [28], [0, 1, 2, 3, 4, 5, 6, 7, 8, 9, 10, 11, 12, 13, 14, 15], some 82⟩, ⟨[28], [], [29], [0, 1, 2, 3, 4, 5, 6, 7, 8, 9, 10, 11, 12, 13, 14, 15, 16], some 83⟩, ⟨[28], [], [30], [0, 1, 2, 3, 4, 5, 6, 7, 8, 9, 10, 11, 12, 13, 14, 15, 16, 17], some 84⟩, ⟨[28], [], [31], [0, 1, 2, 3, 4, 5, 6, 7, 8, 9, 10, 11, 12, 13, 14, 15, 16, 17, 18], some 85⟩, ⟨[28], [], [32], [0, 1, 2, 3, 4, 5, 6, 7, 8, 9, 10, 11, 12, 13, 14, 15, 16, 17, 18, 19], some 86⟩, ⟨[32], [], [33], [0, 1, 2, 3, 4, 5, 6, 7, 8, 9, 10, 11, 12, 13, 14, 15, 16, 17, 18, 19, 20], some 10⟩] [33, 8, 10] mixed hn hG h (by kernel_rfl) ?_ ?_
                · exact ⟨⟨rfl, fun β => (GOk.plain (op_call Tryd.call24 (law05_awake_ok hr18) trivial) rfl)⟩, ⟨rfl, fun β => (GOk.plain (op_move (opt 0 rfl)) rfl)⟩, ⟨rfl, fun β => (GOk.on_eq hb22 rfl rfl rfl (op_move (opt 0 rfl)))⟩, ⟨rfl, fun β => (GOk.on_eq hb22 rfl rfl rfl (op_move (opt 0 rfl)))⟩, ⟨rfl, fun β => (GOk.on_eq hb22 rfl rfl rfl (op_call Tryd.call37 (ref03_SameList_ok hr19) ⟨(opt 0 rfl), (opt 1 rfl), trivial⟩))⟩, ⟨rfl, fun β => (GOk.plain (op_pick_t hb22 (opt 0 rfl) (opt 1 rfl)) rfl)⟩, ⟨rfl, fun β => (GOk.plain (op_move (opt 0 rfl)) rfl)⟩, ⟨rfl, fun β => (GOk.on_eq hb23 rfl rfl rfl (op_move (opt 0 rfl)))⟩, ⟨rfl, fun β => (GOk.on_eq hb23 rfl rfl rfl (op_move (opt 0 rfl)))⟩, ⟨rfl, fun β => (GOk.on_eq hb23 rfl rfl rfl (op_call Tryd.call37 (ref03_SameList_ok hr20) ⟨(opt 0 rfl), (opt 1 rfl), trivial⟩))⟩, ⟨rfl, fun β => (GOk.plain (op_pick_t hb23 (opt 0 rfl) (opt 1 rfl)) rfl)⟩, ⟨rfl, fun β => (GOk.plain (op_move (opt 0 rfl)) rfl)⟩, ⟨rfl, fun β => (GOk.off_v (want := true) hb24 rfl rfl rfl rfl)⟩, ⟨rfl, fun β => (GOk.off_v (want := true) hb24 rfl rfl rfl rfl)⟩, ⟨rfl, fun β => (GOk.off_v (want := true) hb24 rfl rfl rfl rfl)⟩, ⟨rfl, fun β => (GOk.plain (op_pick_f hb24 (opt 0 rfl) (opc (bc _))) rfl)⟩, ⟨rfl, fun β => (GOk.plain (op_move (opt 0 rfl)) rfl)⟩, ⟨rfl, fun β => (GOk.off_v (want := true) rfl rfl rfl rfl rfl)⟩, ⟨rfl, fun β => (GOk.off_v (want := true) rfl rfl rfl rfl rfl)⟩, ⟨rfl, fun β => (GOk.off_v (want := true) rfl rfl rfl rfl rfl)⟩, ⟨rfl, fun β => (GOk.plain (op_pick_f rfl (opt 0 rfl) (opc (bc _))) rfl)⟩, ⟨rfl, fun β => (GOk.plain (op_assign (opt 0 rfl)) rfl)⟩, trivial⟩
                clear h
                intro β a w h
                change SatL c [.slot 10 (boolVP false), .res (Log_e p10 r14.2.2), .res (RLog_e p11 r16.2.2)] a w at h
                clear β
                exact ⟨false, hF, h.sub [0, 1, 2] (by rfl)⟩
            · replace hF := ff_of hb23 hF
              refine region_do (n := 87) [.slot 66 100000 100000 (fun _ _ => (boolVP r18)),
      .slot 67 100000 100000 (fun _ _ => (boolVP r18)),
      .slot 68 100000 100000 (fun _ _ => (slVP (dC 32) r12.1)),
      .slot 69 100000 100000 (fun _ _ => (slVP (dC 32) r13.1)),
      .slot 70 100000 100000 (fun _ _ => (boolVP r19)),
      .slot 71 100000 100000 (fun _ _ => (boolVP r19)),
      .slot 72 100000 100000 (fun _ _ => (boolVP r19)),
      .slot 73 100000 100000 (fun _ _ => (eqVP undef)),
      .slot 74 100000 100000 (fun _ _ => (eqVP undef)),
      .slot 75 100000 100000 (fun _ _ => (eqVP undef)),
      .slot 76 100000 100000 (fun _ _ => (boolVP false)),
      .slot 77 100000 100000 (fun _ _ => (boolVP false)),
      .slot 78 100000 100000 (fun _ _ => (eqVP undef)),
      .slot 79 100000 100000 (fun _ _ => (eqVP undef)),
      .slot 80 100000 100000 (fun _ _ => (eqVP undef)),
      .slot 81 100000 100000 (fun _ _ => (boolVP false)),
      .slot 82 100000 100000 (fun _ _ => (boolVP false)),
      .slot 83 100000 100000 (fun _ _ => (eqVP undef)),
      .slot 84 100000 100000 (fun _ _ => (eqVP undef)),
      .slot 85 100000 100000 (fun _ _ => (eqVP undef)),
      .slot 86 100000 100000 (fun _ _ => (boolVP false)),
      .slot 10 100000 100000 (fun _ _ => (boolVP false))] [0, 1, 2, 3, 4, 5, 6, 7, 8, 9, 10, 11, 12, 13, 14, 15, 16, 17, 18, 19, 20, 21] [⟨[], [], [12], [], some 66⟩, ⟨[12], [], [13], [0], some 67⟩, ⟨[13, 0], [], [14], [0, 1], some 68⟩, ⟨[13, 2], [], [15], [0, 1, 2], some 69⟩, ⟨[13, 14, 15], [], [16], [0, 1, 2, 3], some 70⟩, ⟨[13, 16], [], [17], [0, 1, 2, 3, 4], some 71⟩, ⟨[17], [], [18], [0, 1, 2, 3, 4, 5], some 72⟩, ⟨[18], [], [19], [0, 1, 2, 3, 4, 5, 6], some 73⟩, ⟨[18], [], [20], [0, 1, 2, 3, 4, 5, 6, 7], some 74⟩, ⟨[18], [], [21], [0, 1, 2, 3, 4, 5, 6, 7, 8], some 75⟩, ⟨[18], [], [22], [0, 1, 2, 3, 4, 5, 6, 7, 8, 9], some 76⟩, ⟨[22], [], [23], [0, 1, 2, 3, 4, 5, 6, 7, 8, 9, 10], some 77⟩, ⟨[23], [], [24], [0, 1, 2, 3, 4, 5, 6, 7, 8, 9, 10, 11], some 78⟩, ⟨[23], [], [25], [0, 1, 2, 3, 4, 5, 6, 7, 8, 9, 10, 11, 12], some 79⟩, ⟨[23], [], [26], [0, 1, 2, 3, 4, 5, 6, 7, 8, 9, 10, 11, 12, 13], some 80⟩, ⟨[23], [], [27], [0, 1, 2, 3, 4, 5, 6, 7, 8, 9, 10, 11, 12, 13, 14], some 81⟩, ⟨[27], [], [28], [0, 1, 2, 3, 4, 5, 6, 7, 8, 9, 10, 11, 12, 13, 14, 15], some 82⟩, ⟨[28], [], [29], [0, 1, 2, 3, 4, 5, 6, 7, 8, 9, 10, 11, 12, 13, 14, 15, 16], some 83⟩, ⟨[28], [], [30], [0, 1, 2, 3, 4, 5, 6, 7, 8, 9, 10, 11, 12, 13, 14, 15, 16, 17], some 84⟩, ⟨[28], [], [31], [0, 1, 2, 3, 4, 5, 6, 7, 8, 9, 10, 11, 12, 13, 14, 15, 16, 17, 18], some 85⟩, ⟨[28], [], [32], [0, 1, 2, 3, 4, 5, 6, 7, 8, 9, 10, 11, 12, 13, 14, 15, 16, 17, 18, 19], some 86⟩, ⟨[32], [], [33], [0, 1, 2, 3, 4, 5, 6, 7, 8, 9, 10, 11, 12, 13, 14, 15, 16, 17, 18, 19, 20], some 10⟩] [33, 8, 10] mixed hn hG h (by kernel_rfl) ?_ ?_
              · exact ⟨⟨rfl, fun β => (GOk.plain (op_call Tryd.call24 (law05_awake_ok hr18) trivial) rfl)⟩, ⟨rfl, fun β => (GOk.plain (op_move (opt 0 rfl)) rfl)⟩, ⟨rfl, fun β => (GOk.on_eq hb22 rfl rfl rfl (op_move (opt 0 rfl)))⟩, ⟨rfl, fun β => (GOk.on_eq hb22 rfl rfl rfl (op_move (opt 0 rfl)))⟩, ⟨rfl, fun β => (GOk.on_eq hb22 rfl rfl rfl (op_call Tryd.call37 (ref03_SameList_ok hr19) ⟨(opt 0 rfl), (opt 1 rfl), trivial⟩))⟩, ⟨rfl, fun β => (GOk.plain (op_pick_t hb22 (opt 0 rfl) (opt 1 rfl)) rfl)⟩, ⟨rfl, fun β => (GOk.plain (op_move (opt 0 rfl)) rfl)⟩, ⟨rfl, fun β => (GOk.off_v (want := true) hb23 rfl rfl rfl rfl)⟩, ⟨rfl, fun β => (GOk.off_v (want := true) hb23 rfl rfl rfl rfl)⟩, ⟨rfl, fun β => (GOk.off_v (want := true) hb23 rfl rfl rfl rfl)⟩, ⟨rfl, fun β => (GOk.plain (op_pick_f hb23 (opt 0 rfl) (opc (bc _))) rfl)⟩, ⟨rfl, fun β => (GOk.plain (op_move (opt 0 rfl)) rfl)⟩, ⟨rfl, fun β => (GOk.off_v (want := true) rfl rfl rfl rfl rfl)⟩, ⟨rfl, fun β => (GOk.off_v (want := true) rfl rfl rfl rfl rfl)⟩, ⟨rfl, fun β => (GOk.off_v (want := true) rfl rfl rfl rfl rfl)⟩, ⟨rfl, fun β => (GOk.plain (op_pick_f rfl (opt 0 rfl) (opc (bc _))) rfl)⟩, ⟨rfl, fun β => (GOk.plain (op_move (opt 0 rfl)) rfl)⟩, ⟨rfl, fun β => (GOk.off_v (want := true) rfl rfl rfl rfl rfl)⟩, ⟨rfl, fun β => (GOk.off_v (want := true) rfl rfl rfl rfl rfl)⟩, ⟨rfl, fun β => (GOk.off_v (want := true) rfl rfl rfl rfl rfl)⟩, ⟨rfl, fun β => (GOk.plain (op_pick_f rfl (opt 0 rfl) (opc (bc _))) rfl)⟩, ⟨rfl, fun β => (GOk.plain (op_assign (opt 0 rfl)) rfl)⟩, trivial⟩
              clear h
              intro β a w h
              change SatL c [.slot 10 (boolVP false), .res (Log_e p10 r14.2.2), .res (RLog_e p11 r16.2.2)] a w at h
              clear β
              exact ⟨false, hF, h.sub [0, 1, 2] (by rfl)⟩
          · replace hF := ff_of hb22 hF
            refine region_do (n := 87) [.slot 66 100000 100000 (fun _ _ => (boolVP r18)),
      .slot 67 100000 100000 (fun _ _ => (boolVP r18)),
      .slot 68 100000 100000 (fun _ _ => (eqVP undef)),
      .slot 69 100000 100000 (fun _ _ => (eqVP undef)),
      .slot 70 100000 100000 (fun _ _ => (eqVP undef)),
      .slot 71 100000 100000 (fun _ _ => (boolVP false)),
      .slot 72 100000 100000 (fun _ _ => (boolVP false)),
      .slot 73 100000 100000 (fun _ _ => (eqVP undef)),
      .slot 74 100000 100000 (fun _ _ => (eqVP undef)),
      .slot 75 100000 100000 (fun _ _ => (eqVP undef)),
      .slot 76 100000 100000 (fun _ _ => (boolVP false)),
      .slot 77 100000 100000 (fun _ _ => (boolVP false)),
      .slot 78 100000 100000 (fun _ _ => (eqVP undef)),
      .slot 79 100000 100000 (fun _ _ => (eqVP undef)),
      .slot 80 100000 100000 (fun _ _ => (eqVP undef)),
      .slot 81 100000 100000 (fun _ _ => (boolVP false)),
      .slot 82 100000 100000 (fun _ _ => (boolVP false)),
      .slot 83 100000 100000 (fun _ _ => (eqVP undef)),
      .slot 84 100000 100000 (fun _ _ => (eqVP undef)),
      .slot 85 100000 100000 (fun _ _ => (eqVP undef)),
      .slot 86 100000 100000 (fun _ _ => (boolVP false)),
      .slot 10 100000 100000 (fun _ _ => (boolVP false))] [0, 1, 2, 3, 4, 5, 6, 7, 8, 9, 10, 11, 12, 13, 14, 15, 16, 17, 18, 19, 20, 21] [⟨[], [], [12], [], some 66⟩, ⟨[12], [], [13], [0], some 67⟩, ⟨[13], [], [14], [0, 1], some 68⟩, ⟨[13], [], [15], [0, 1, 2], some 69⟩, ⟨[13], [], [16], [0, 1, 2, 3], some 70⟩, ⟨[13], [], [17], [0, 1, 2, 3, 4], some 71⟩, ⟨[17], [], [18], [0, 1, 2, 3, 4, 5], some 72⟩, ⟨[18], [], [19], [0, 1, 2, 3, 4, 5, 6], some 73⟩, ⟨[18], [], [20], [0, 1, 2, 3, 4, 5, 6, 7], some 74⟩, ⟨[18], [], [21], [0, 1, 2, 3, 4, 5, 6, 7, 8], some 75⟩, ⟨[18], [], [22], [0, 1, 2, 3, 4, 5, 6, 7, 8, 9], some 76⟩, ⟨[22], [], [23], [0, 1, 2, 3, 4, 5, 6, 7, 8, 9, 10], some 77⟩, ⟨[23], [], [24], [0, 1, 2, 3, 4, 5, 6, 7, 8, 9, 10, 11], some 78⟩, ⟨[23], [], [25], [0, 1, 2, 3, 4, 5, 6, 7, 8, 9, 10, 11, 12], some 79⟩, ⟨[23], [], [26], [0, 1, 2, 3, 4, 5, 6, 7, 8, 9, 10, 11, 12, 13], some 80⟩, ⟨[23], [], [27], [0, 1, 2, 3, 4, 5, 6, 7, 8, 9, 10, 11, 12, 13, 14], some 81⟩, ⟨[27], [], [28], [0, 1, 2, 3, 4, 5, 6, 7, 8, 9, 10, 11, 12, 13, 14, 15], some 82⟩, ⟨[28], [], [29], [0, 1, 2, 3, 4, 5, 6, 7, 8, 9, 10, 11, 12, 13, 14, 15, 16], some 83⟩, ⟨[28], [], [30], [0, 1, 2, 3, 4, 5, 6, 7, 8, 9, 10, 11, 12, 13, 14, 15, 16, 17], some 84⟩, ⟨[28], [], [31], [0, 1, 2, 3, 4, 5, 6, 7, 8, 9, 10, 11, 12, 13, 14, 15, 16, 17, 18], some 85⟩, ⟨[28], [], [32], [0, 1, 2, 3, 4, 5, 6, 7, 8, 9, 10, 11, 12, 13, 14, 15, 16, 17, 18, 19], some 86⟩, ⟨[32], [], [33], [0, 1, 2, 3, 4, 5, 6, 7, 8, 9, 10, 11, 12, 13, 14, 15, 16, 17, 18, 19, 20], some 10⟩] [33, 8, 10] mixed hn hG h (by kernel_rfl) ?_ ?_
            · exact ⟨⟨rfl, fun β => (GOk.plain (op_call Tryd.call24 (law05_awake_ok hr18) trivial) rfl)⟩, ⟨rfl, fun β => (GOk.plain (op_move (opt 0 rfl)) rfl)⟩, ⟨rfl, fun β => (GOk.off_v (want := true) hb22 rfl rfl rfl rfl)⟩, ⟨rfl, fun β => (GOk.off_v (want := true) hb22 rfl rfl rfl rfl)⟩, ⟨rfl, fun β => (GOk.off_v (want := true) hb22 rfl rfl rfl rfl)⟩, ⟨rfl, fun β => (GOk.plain (op_pick_f hb22 (opt 0 rfl) (opc (bc _))) rfl)⟩, ⟨rfl, fun β => (GOk.plain (op_move (opt 0 rfl)) rfl)⟩, ⟨rfl, fun β => (GOk.off_v (want := true) rfl rfl rfl rfl rfl)⟩, ⟨rfl, fun β => (GOk.off_v (want := true) rfl rfl rfl rfl rfl)⟩, ⟨rfl, fun β => (GOk.off_v (want := true) rfl rfl rfl rfl rfl)⟩, ⟨rfl, fun β => (GOk.plain (op_pick_f rfl (opt 0 rfl) (opc (bc _))) rfl)⟩, ⟨rfl, fun β => (GOk.plain (op_move (opt 0 rfl)) rfl)⟩, ⟨rfl, fun β => (GOk.off_v (want := true) rfl rfl rfl rfl rfl)⟩, ⟨rfl, fun β => (GOk.off_v (want := true) rfl rfl rfl rfl rfl)⟩, ⟨rfl, fun β => (GOk.off_v (want := true) rfl rfl rfl rfl rfl)⟩, ⟨rfl, fun β => (GOk.plain (op_pick_f rfl (opt 0 rfl) (opc (bc _))) rfl)⟩, ⟨rfl, fun β => (GOk.plain (op_move (opt 0 rfl)) rfl)⟩, ⟨rfl, fun β => (GOk.off_v (want := true) rfl rfl rfl rfl rfl)⟩, ⟨rfl, fun β => (GOk.off_v (want := true) rfl rfl rfl rfl rfl)⟩, ⟨rfl, fun β => (GOk.off_v (want := true) rfl rfl rfl rfl rfl)⟩, ⟨rfl, fun β => (GOk.plain (op_pick_f rfl (opt 0 rfl) (opc (bc _))) rfl)⟩, ⟨rfl, fun β => (GOk.plain (op_assign (opt 0 rfl)) rfl)⟩, trivial⟩
            clear h
            intro β a w h
            change SatL c [.slot 10 (boolVP false), .res (Log_e p10 r14.2.2), .res (RLog_e p11 r16.2.2)] a w at h
            clear β
            exact ⟨false, hF, h.sub [0, 1, 2] (by rfl)⟩
        · clear h hF
          rintro a w ⟨x21, hF, h⟩
          unfold law05_LamportSigns.j2 at hF
          show Code.wp Tryd.prog _ _ a w
          refine wp_ret ?_
          obtain rfl := Option.some.inj hF
          exact ⟨.inl rfl, ret1 h Tryd.results10 (r_tmp 0 rfl) [] [] rfl rfl rfl⟩
end Go.Proofs.YtbhehllkimedaaaDoor
