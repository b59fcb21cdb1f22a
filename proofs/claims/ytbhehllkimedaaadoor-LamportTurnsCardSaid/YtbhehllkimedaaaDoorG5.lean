/- The functions' Lean twins and contracts, printed by this session's own program: part 5. -/
import Derived.Test.YtbhehllkimedaaaDoorG4
namespace Go.Proofs.YtbhehllkimedaaaDoor
open Go Go.RowKit Go.Proofs
set_option maxRecDepth 100000
set_option linter.unusedVariables false
def ref05_Bit.b1 (a_1 : Int) (x6 : Int) (x7 : Int) : Option (Flow Int (Int × Int)) := (if (decide (x7 < (IntKind.wrap .i64 (7 - (a_1.tmod 8))))) = true then some (.cont (IntKind.wrap .i64 (x6.tdiv 2), IntKind.wrap .i64 (x7 + 1))) else some (.brk (x6, x7)))
def ref05_Bit.j1 (a_0 : List UInt8) (a_1 : Int) (x2 : Bool) : Option Int := (if x2 = true then some 0 else (if (0 : Int) ≤ IntKind.wrap .i64 (a_1.tdiv 8) ∧ IntKind.wrap .i64 (a_1.tdiv 8) < 32 then ((loopN (fun s : Int × Int => ref05_Bit.b1 a_1 s.1 s.2) 100000 (IntKind.wrap .i64 ((a_0.getD (IntKind.wrap .i64 (a_1.tdiv 8)).toNat 0).toNat), 0)).bind fun cr => match cr with | .ret r => some r | .next (y16, y17) => some (y16.tmod 2)) else none))
def ref05_Bit (a_0 : List UInt8) (a_1 : Int) : Option Int := (if (decide (a_1 < (0 : Int))) = true then ref05_Bit.j1 a_0 a_1 true else ref05_Bit.j1 a_0 a_1 (decide ((255 : Int) < a_1)))
theorem ref05_Bit_ok {a_0 : List UInt8} {a_1 : Int} {r : Int} (hF : ref05_Bit a_0 a_1 = some r) : CallOk Tryd.prog KG 33 [(aggVP [bytesCk 32 a_0]), (intVP .i64 a_1)] [] (fun _ => []) (intVP .i64 r) := by
  refine CallOk.intro 29 Tryd.func33 rfl Tryd.ntmps33 (Nat.le_of_ble_eq_true rfl) ?_
  intro c a w hG hn h
  unfold ref05_Bit at hF
  change SatL c [.slot 0 (aggVP [bytesCk 32 a_0]), .slot 1 (intVP .i64 a_1)] a w at h
  refine wp_seq ?_
  refine region_do (n := 29) [.slot 2 0 100000 (fun v1_ _ => (lpVP v1_ 0)),
      .res 0 100000 (fun v1_ _ => (lb (v1_) 24 [bytesCk 32 a_0])),
      .slot 4 100000 100000 (fun _ _ => (intVP .i64 0))] [0, 0, 1] [⟨[0], [], [2, 3], [], some 2⟩, ⟨[], [], [4], [0], some 4⟩] [1, 2, 3] mixed hn hG h (by kernel_rfl) ?_ ?_
  · exact ⟨⟨rfl, fun β => (GOk.plain (op_box (opt 0 rfl) (cells_agg _)) rfl)⟩, ⟨rfl, fun β => (GOk.plain (op_assign (opc (ic (by decide)))) rfl)⟩, trivial⟩
  clear h
  intro β a w h
  change SatL c [.slot 1 (intVP .i64 a_1), .slot 2 (lpVP (β 0) 0), .res (lb (β 0) 24 [bytesCk 32 a_0])] a w at h
  generalize β 0 = p1 at h
  clear β
  show Code.wp Tryd.prog _ _ a w
  refine wp_seq ?_
  refine wp_seq ?_
  refine wp_cut (fun a w => ∃ (x2 : Bool), ref05_Bit.j1 a_0 a_1 x2 = some r ∧ SatL c [.slot 1 (intVP .i64 a_1), .slot 2 (lpVP p1 0), .slot 12 (boolVP x2), .res (lb p1 24 [bytesCk 32 a_0])] a w) ?_ ?_
  · rcases Bool.eq_false_or_eq_true (decide (a_1 < (0 : Int))) with hb18 | hb18
    · replace hF := tt_of hb18 hF
      refine region_do (n := 29) [.slot 7 100000 100000 (fun _ _ => (intVP .i64 a_1)),
      .slot 8 100000 100000 (fun _ _ => (boolVP (decide (a_1 < (0 : Int))))),
      .slot 9 100000 100000 (fun _ _ => (boolVP (decide (a_1 < (0 : Int))))),
      .slot 10 100000 100000 (fun _ _ => (eqVP undef)),
      .slot 11 100000 100000 (fun _ _ => (eqVP undef)),
      .slot 12 100000 100000 (fun _ _ => (boolVP true))] [0, 1, 2, 3, 4, 5] [⟨[0], [], [3], [], some 7⟩, ⟨[3], [], [4], [0], some 8⟩, ⟨[4], [], [5], [0, 1], some 9⟩, ⟨[5], [], [6], [0, 1, 2], some 10⟩, ⟨[5], [], [7], [0, 1, 2, 3], some 11⟩, ⟨[5], [], [8], [0, 1, 2, 3, 4], some 12⟩] [0, 1, 8, 2] mixed hn hG h (by kernel_rfl) ?_ ?_
      · exact ⟨⟨rfl, fun β => (GOk.plain (op_move (opt 0 rfl)) rfl)⟩, ⟨rfl, fun β => (GOk.plain (op_bin bin_lss (opt 0 rfl) (opc (ic (by decide)))) rfl)⟩, ⟨rfl, fun β => (GOk.plain (op_move (opt 0 rfl)) rfl)⟩, ⟨rfl, fun β => (GOk.off_v (want := false) hb18 rfl rfl rfl rfl)⟩, ⟨rfl, fun β => (GOk.off_v (want := false) hb18 rfl rfl rfl rfl)⟩, ⟨rfl, fun β => (GOk.plain (op_pick_t hb18 (opt 0 rfl) (opc (bc _))) rfl)⟩, trivial⟩
      clear h
      intro β a w h
      change SatL c [.slot 1 (intVP .i64 a_1), .slot 2 (lpVP p1 0), .slot 12 (boolVP true), .res (lb p1 24 [bytesCk 32 a_0])] a w at h
      clear β
      exact ⟨true, hF, h.sub [0, 1, 2, 3] (by rfl)⟩
    · replace hF := ff_of hb18 hF
      refine region_do (n := 29) [.slot 7 100000 100000 (fun _ _ => (intVP .i64 a_1)),
      .slot 8 100000 100000 (fun _ _ => (boolVP (decide (a_1 < (0 : Int))))),
      .slot 9 100000 100000 (fun _ _ => (boolVP (decide (a_1 < (0 : Int))))),
      .slot 10 100000 100000 (fun _ _ => (intVP .i64 a_1)),
      .slot 11 100000 100000 (fun _ _ => (boolVP (decide ((255 : Int) < a_1)))),
      .slot 12 100000 100000 (fun _ _ => (boolVP (decide ((255 : Int) < a_1))))] [0, 1, 2, 3, 4, 5] [⟨[0], [], [3], [], some 7⟩, ⟨[3], [], [4], [0], some 8⟩, ⟨[4], [], [5], [0, 1], some 9⟩, ⟨[5, 0], [], [6], [0, 1, 2], some 10⟩, ⟨[5, 6], [], [7], [0, 1, 2, 3], some 11⟩, ⟨[5, 7], [], [8], [0, 1, 2, 3, 4], some 12⟩] [0, 1, 8, 2] mixed hn hG h (by kernel_rfl) ?_ ?_
      · exact ⟨⟨rfl, fun β => (GOk.plain (op_move (opt 0 rfl)) rfl)⟩, ⟨rfl, fun β => (GOk.plain (op_bin bin_lss (opt 0 rfl) (opc (ic (by decide)))) rfl)⟩, ⟨rfl, fun β => (GOk.plain (op_move (opt 0 rfl)) rfl)⟩, ⟨rfl, fun β => (GOk.on_eq hb18 rfl rfl rfl (op_move (opt 0 rfl)))⟩, ⟨rfl, fun β => (GOk.on_eq hb18 rfl rfl rfl (op_bin bin_gtr (opt 0 rfl) (opc (ic (by decide)))))⟩, ⟨rfl, fun β => (GOk.plain (op_pick_f hb18 (opt 0 rfl) (opt 1 rfl)) rfl)⟩, trivial⟩
      clear h
      intro β a w h
      change SatL c [.slot 1 (intVP .i64 a_1), .slot 2 (lpVP p1 0), .slot 12 (boolVP (decide ((255 : Int) < a_1))), .res (lb p1 24 [bytesCk 32 a_0])] a w at h
      clear β
      exact ⟨decide ((255 : Int) < a_1), hF, h.sub [0, 1, 2, 3] (by rfl)⟩
  · clear h hF
    rintro a w ⟨x2, hF, h⟩
    unfold ref05_Bit.j1 at hF
    show Code.wp Tryd.prog _ _ a w
    refine cond_L h 2 rfl (fun hb3 => ?_) (fun hb3 => ?_)
    · replace hF := tt_of hb3 hF
      replace h := h.sub [] (by rfl)
      change SatL c [] a w at h
      refine wp_seq ?_
      refine region_do (n := 29) [.slot 4 100000 100000 (fun _ _ => (intVP .i64 0))] [0] [⟨[], [], [0], [], some 4⟩] [0] mixed hn hG h (by kernel_rfl) ?_ ?_
      · exact ⟨⟨rfl, fun β => (GOk.plain (op_assign (opc (ic (by decide)))) rfl)⟩, trivial⟩
      clear h
      intro β a w h
      change SatL c [.slot 4 (intVP .i64 0)] a w at h
      clear β
      show Code.wp Tryd.prog _ _ a w
      refine wp_ret ?_
      obtain rfl := Option.some.inj hF
      exact ⟨.inl rfl, ret1 h Tryd.results33 (r_tmp 0 rfl) [] [] rfl rfl rfl⟩
    · replace hF := ff_of hb3 hF
      replace h := h.sub [0, 1, 3] (by rfl)
      change SatL c [.slot 1 (intVP .i64 a_1), .slot 2 (lpVP p1 0), .res (lb p1 24 [bytesCk 32 a_0])] a w at h
      refine wp_skip ?_
      show Code.wp Tryd.prog _ _ a w
      refine wp_seq ?_
      obtain ⟨hv4, hF⟩ := ite_some hF
      refine region_do (n := 29) [.slot 13 100000 100000 (fun _ _ => (intVP .i64 a_1)),
      .slot 14 100000 100000 (fun _ _ => (intVP .i64 (IntKind.wrap .i64 (a_1.tdiv 8)))),
      .slot 15 100000 100000 (fun _ _ => (lpVP p1 (0 + (IntKind.wrap .i64 (a_1.tdiv 8)).toNat * 1))),
      .slot 16 100000 100000 (fun _ _ => (intVP .u8 ((a_0.getD (IntKind.wrap .i64 (a_1.tdiv 8)).toNat 0).toNat))),
      .slot 17 100000 100000 (fun _ _ => (intVP .i64 (IntKind.wrap .i64 ((a_0.getD (IntKind.wrap .i64 (a_1.tdiv 8)).toNat 0).toNat)))),
      .slot 5 100000 100000 (fun _ _ => (intVP .i64 (IntKind.wrap .i64 ((a_0.getD (IntKind.wrap .i64 (a_1.tdiv 8)).toNat 0).toNat))))] [0, 1, 2, 3, 4, 5] [⟨[0], [], [3], [], some 13⟩, ⟨[3], [], [4], [0], some 14⟩, ⟨[1, 4], [], [5], [0, 1], some 15⟩, ⟨[5, 2], [], [6], [0, 1, 2], some 16⟩, ⟨[6], [], [7], [0, 1, 2, 3], some 17⟩, ⟨[7], [], [8], [0, 1, 2, 3, 4], some 5⟩] [0, 8] mixed hn hG h (by kernel_rfl) ?_ ?_
      · exact ⟨⟨rfl, fun β => (GOk.plain (op_move (opt 0 rfl)) rfl)⟩, ⟨rfl, fun β => (GOk.plain (op_bin (bin_quo (by decide)) (opt 0 rfl) (opc (ic (by decide)))) rfl)⟩, ⟨rfl, fun β => (GOk.plain (op_indexAddr_lb Tryd.underlying24 Tryd.sizeOf5 (opt 0 rfl) (opt 1 rfl) hv4) rfl)⟩, ⟨rfl, fun β => (GOk.plain (op_load_lbB (i := IntKind.wrap .i64 (a_1.tdiv 8)) [] [] 1 Tryd.isAgg5 (opt 0 rfl) rfl rfl hv4) rfl)⟩, ⟨rfl, fun β => (GOk.plain (op_convert_int Tryd.underlying5 Tryd.underlying3 (opt 0 rfl)) rfl)⟩, ⟨rfl, fun β => (GOk.plain (op_assign (opt 0 rfl)) rfl)⟩, trivial⟩
      clear h
      intro β a w h
      change SatL c [.slot 1 (intVP .i64 a_1), .slot 5 (intVP .i64 (IntKind.wrap .i64 ((a_0.getD (IntKind.wrap .i64 (a_1.tdiv 8)).toNat 0).toNat)))] a w at h
      clear β
      show Code.wp Tryd.prog _ _ a w
      refine wp_seq ?_
      refine wp_seq ?_
      refine region_do (n := 29) [.slot 6 100000 100000 (fun _ _ => (intVP .i64 0))] [0] [⟨[], [], [2], [], some 6⟩] [0, 1, 2] mixed hn hG h (by kernel_rfl) ?_ ?_
      · exact ⟨⟨rfl, fun β => (GOk.plain (op_assign (opc (ic (by decide)))) rfl)⟩, trivial⟩
      clear h
      intro β a w h
      change SatL c [.slot 1 (intVP .i64 a_1), .slot 5 (intVP .i64 (IntKind.wrap .i64 ((a_0.getD (IntKind.wrap .i64 (a_1.tdiv 8)).toNat 0).toNat))), .slot 6 (intVP .i64 0)] a w at h
      clear β
      show Code.wp Tryd.prog _ _ a w
      refine wp_block ?_
      obtain ⟨cr12, hl13, hF⟩ := bind_some hF
      refine wp_mono (wp_loopN (R := Int) (S := Int × Int) (fun s a w => SatL c [.slot 1 (intVP .i64 a_1), .slot 5 (intVP .i64 s.1), .slot 6 (intVP .i64 s.2)] a w) (fun res e a w => match res with | .next s => e = .exit 0 ∧ SatL c [.slot 5 (intVP .i64 s.1)] a w | .ret r => e = .ret ∧ RetOk Tryd.prog Tryd.f33 c (intVP .i64 r) (fun _ => []) a w) ?_ _ (IntKind.wrap .i64 ((a_0.getD (IntKind.wrap .i64 (a_1.tdiv 8)).toNat 0).toNat), 0) _ _ _ (h.sub [0, 1, 2] (by rfl)) hl13) ?_
      · clear hl13 hF h
        intro s a w o h hF
        obtain ⟨x6, x7⟩ := s
        change ref05_Bit.b1 a_1 x6 x7 = some o at hF
        unfold ref05_Bit.b1 at hF
        change SatL c [.slot 1 (intVP .i64 a_1), .slot 5 (intVP .i64 x6), .slot 6 (intVP .i64 x7)] a w at h
        refine wp_seq ?_
        refine wp_seq ?_
        refine region_do (n := 29) [.slot 18 100000 100000 (fun _ _ => (intVP .i64 x7)),
      .slot 19 100000 100000 (fun _ _ => (intVP .i64 a_1)),
      .slot 20 100000 100000 (fun _ _ => (intVP .i64 (a_1.tmod 8))),
      .slot 21 100000 100000 (fun _ _ => (intVP .i64 (IntKind.wrap .i64 (7 - (a_1.tmod 8))))),
      .slot 22 100000 100000 (fun _ _ => (boolVP (decide (x7 < (IntKind.wrap .i64 (7 - (a_1.tmod 8)))))))] [0, 1, 2, 3, 4] [⟨[2], [], [3], [], some 18⟩, ⟨[0], [], [4], [0], some 19⟩, ⟨[4], [], [5], [0, 1], some 20⟩, ⟨[5], [], [6], [0, 1, 2], some 21⟩, ⟨[3, 6], [], [7], [0, 1, 2, 3], some 22⟩] [0, 1, 2, 7] mixed hn hG h (by kernel_rfl) ?_ ?_
        · exact ⟨⟨rfl, fun β => (GOk.plain (op_move (opt 0 rfl)) rfl)⟩, ⟨rfl, fun β => (GOk.plain (op_move (opt 0 rfl)) rfl)⟩, ⟨rfl, fun β => (GOk.plain (op_bin (bin_rem (by decide)) (opt 0 rfl) (opc (ic (by decide)))) rfl)⟩, ⟨rfl, fun β => (GOk.plain (op_bin bin_sub (opc (ic (by decide))) (opt 0 rfl)) rfl)⟩, ⟨rfl, fun β => (GOk.plain (op_bin bin_lss (opt 0 rfl) (opt 1 rfl)) rfl)⟩, trivial⟩
        clear h
        intro β a w h
        change SatL c [.slot 1 (intVP .i64 a_1), .slot 5 (intVP .i64 x6), .slot 6 (intVP .i64 x7), .slot 22 (boolVP (decide (x7 < (IntKind.wrap .i64 (7 - (a_1.tmod 8))))))] a w at h
        clear β
        show Code.wp Tryd.prog _ _ a w
        refine cond_L h 3 rfl (fun hb11 => ?_) (fun hb11 => ?_)
        · replace hF := tt_of hb11 hF
          replace h := h.sub [0, 1, 2] (by rfl)
          change SatL c [.slot 1 (intVP .i64 a_1), .slot 5 (intVP .i64 x6), .slot 6 (intVP .i64 x7)] a w at h
          refine wp_skip ?_
          show Code.wp Tryd.prog _ _ a w
          refine wp_seq ?_
          refine wp_block ?_
          refine region_do (n := 29) [.slot 25 100000 100000 (fun _ _ => (intVP .i64 x6)),
      .slot 26 100000 100000 (fun _ _ => (intVP .i64 (IntKind.wrap .i64 (x6.tdiv 2)))),
      .slot 5 100000 100000 (fun _ _ => (intVP .i64 (IntKind.wrap .i64 (x6.tdiv 2))))] [0, 1, 2] [⟨[1], [], [3], [], some 25⟩, ⟨[3], [], [4], [0], some 26⟩, ⟨[4], [1], [5], [0, 1], some 5⟩] [0, 5, 2] mixed hn hG h (by kernel_rfl) ?_ ?_
          · exact ⟨⟨rfl, fun β => (GOk.plain (op_move (opt 0 rfl)) rfl)⟩, ⟨rfl, fun β => (GOk.plain (op_bin (bin_quo (by decide)) (opt 0 rfl) (opc (ic (by decide)))) rfl)⟩, ⟨rfl, fun β => (GOk.drop _ (GOk.plain (op_assign (opt 0 rfl)) rfl))⟩, trivial⟩
          clear h
          intro β a w h
          change SatL c [.slot 1 (intVP .i64 a_1), .slot 5 (intVP .i64 (IntKind.wrap .i64 (x6.tdiv 2))), .slot 6 (intVP .i64 x7)] a w at h
          clear β
          show Code.wp Tryd.prog _ _ a w
          refine region_do (n := 29) [.slot 23 100000 100000 (fun _ _ => (intVP .i64 x7)),
      .slot 24 100000 100000 (fun _ _ => (intVP .i64 (IntKind.wrap .i64 (x7 + 1)))),
      .slot 6 100000 100000 (fun _ _ => (intVP .i64 (IntKind.wrap .i64 (x7 + 1))))] [0, 1, 2] [⟨[2], [], [3], [], some 23⟩, ⟨[3], [], [4], [0], some 24⟩, ⟨[4], [2], [5], [0, 1], some 6⟩] [0, 1, 5] mixed hn hG h (by kernel_rfl) ?_ ?_
          · exact ⟨⟨rfl, fun β => (GOk.plain (op_move (opt 0 rfl)) rfl)⟩, ⟨rfl, fun β => (GOk.plain (op_bin bin_add (opt 0 rfl) (opc (ic (by decide)))) rfl)⟩, ⟨rfl, fun β => (GOk.drop _ (GOk.plain (op_assign (opt 0 rfl)) rfl))⟩, trivial⟩
          clear h
          intro β a w h
          change SatL c [.slot 1 (intVP .i64 a_1), .slot 5 (intVP .i64 (IntKind.wrap .i64 (x6.tdiv 2))), .slot 6 (intVP .i64 (IntKind.wrap .i64 (x7 + 1)))] a w at h
          clear β
          obtain rfl := Option.some.inj hF
          exact ⟨rfl, h.sub [0, 1, 2] (by rfl)⟩
        · replace hF := ff_of hb11 hF
          replace h := h.sub [0, 1, 2] (by rfl)
          change SatL c [.slot 1 (intVP .i64 a_1), .slot 5 (intVP .i64 x6), .slot 6 (intVP .i64 x7)] a w at h
          refine wp_exit ?_
          obtain rfl := Option.some.inj hF
          exact ⟨exit_ne _, rfl, h.sub [1] (by rfl)⟩
      · clear hl13
        intro e a w hq
        cases cr12 with
        | ret r14 =>
          obtain ⟨rfl, hq⟩ := hq
          obtain rfl := Option.some.inj hF
          exact ⟨.inl rfl, hq⟩
        | next s15 =>
          obtain ⟨y16, y17⟩ := s15
          obtain ⟨rfl, h⟩ := hq
          change SatL c [.slot 5 (intVP .i64 y16)] a w at h
          refine inBlock_at ?_
          show Code.wp Tryd.prog _ _ a w
          refine wp_seq ?_
          refine region_do (n := 29) [.slot 27 100000 100000 (fun _ _ => (intVP .i64 y16)),
      .slot 28 100000 100000 (fun _ _ => (intVP .i64 (y16.tmod 2))),
      .slot 4 100000 100000 (fun _ _ => (intVP .i64 (y16.tmod 2)))] [0, 1, 2] [⟨[0], [], [1], [], some 27⟩, ⟨[1], [], [2], [0], some 28⟩, ⟨[2], [], [3], [0, 1], some 4⟩] [3] mixed hn hG h (by kernel_rfl) ?_ ?_
          · exact ⟨⟨rfl, fun β => (GOk.plain (op_move (opt 0 rfl)) rfl)⟩, ⟨rfl, fun β => (GOk.plain (op_bin (bin_rem (by decide)) (opt 0 rfl) (opc (ic (by decide)))) rfl)⟩, ⟨rfl, fun β => (GOk.plain (op_assign (opt 0 rfl)) rfl)⟩, trivial⟩
          clear h
          intro β a w h
          change SatL c [.slot 4 (intVP .i64 (y16.tmod 2))] a w at h
          clear β
          show Code.wp Tryd.prog _ _ a w
          refine wp_ret ?_
          obtain rfl := Option.some.inj hF
          exact ⟨.inl rfl, ret1 h Tryd.results33 (r_tmp 0 rfl) [] [] rfl rfl rfl⟩

def ref05_Secret (L_0 : Option O_RLog) (a_1 : List UInt8) (a_2 : Int) (a_3 : Int) (a_4 : Int) : Option ((List UInt8) × (Option O_RLog)) := ((ref03_Bytes a_1).bind fun r3 => ((ref03_Big (IntKind.wrap .u64 a_2) 4).bind fun r4 => ((ref03_Big (IntKind.wrap .u64 a_3) 1).bind fun r5 => ((ref03_Big (IntKind.wrap .u64 a_4) 1).bind fun r6 => ((ref04_Log_Of L_0 1 [r3, r4, r5, r6]).bind fun r7 => some (r7.1, r7.2))))))
theorem ref05_Secret_ok {p_0 : Value} {L_0 : Option O_RLog} {a_1 : List UInt8} {a_2 : Int} {a_3 : Int} {a_4 : Int} {r : (List UInt8) × (Option O_RLog)} (hF : ref05_Secret L_0 a_1 a_2 a_3 a_4 = some r) : CallOk Tryd.prog KG 32 [(eqVP p_0), (aggVP [bytesCk 32 a_1]), (intVP .i64 a_2), (intVP .i64 a_3), (intVP .i64 a_4)] [(RLog_e p_0 L_0)] (fun _ => [RLog_e p_0 r.2]) (aggVP [bytesCk 32 r.1]) := by
  refine CallOk.intro 25 Tryd.func32 rfl Tryd.ntmps32 (Nat.le_of_ble_eq_true rfl) ?_
  intro c a w hG hn h
  unfold ref05_Secret at hF
  change SatL c [.slot 0 (eqVP p_0), .slot 1 (aggVP [bytesCk 32 a_1]), .slot 2 (intVP .i64 a_2), .slot 3 (intVP .i64 a_3), .slot 4 (intVP .i64 a_4), .res (RLog_e p_0 L_0)] a w at h
  refine wp_seq ?_
  refine region_do (n := 25) [.slot 6 0 100000 (fun v1_ _ => (lpVP v1_ 0)),
      .res 0 100000 (fun v1_ _ => (lb (v1_) 24 [bytesCk 32 a_1])),
      .slot 10 1 100000 (fun v1_ _ => (lpVP v1_ 0)),
      .res 1 100000 (fun v1_ _ => (lb (v1_) 24 [bytesCk 32 (List.replicate 32 0)]))] [0, 0, 1, 1] [⟨[1], [], [6, 7], [], some 6⟩, ⟨[], [], [8, 9], [0], some 10⟩] [0, 2, 3, 4, 6, 8, 5, 7, 9] mixed hn hG h (by kernel_rfl) ?_ ?_
  · exact ⟨⟨rfl, fun β => (GOk.plain (op_box (opt 0 rfl) (cells_agg _)) rfl)⟩, ⟨rfl, fun β => (GOk.plain (op_alloc Tryd.zeroValue24 z24) rfl)⟩, trivial⟩
  clear h
  intro β a w h
  change SatL c [.slot 0 (eqVP p_0), .slot 2 (intVP .i64 a_2), .slot 3 (intVP .i64 a_3), .slot 4 (intVP .i64 a_4), .slot 6 (lpVP (β 0) 0), .slot 10 (lpVP (β 1) 0), .res (RLog_e p_0 L_0), .res (lb (β 0) 24 [bytesCk 32 a_1]), .res (lb (β 1) 24 [bytesCk 32 (List.replicate 32 0)])] a w at h
  generalize β 0 = p1 at h
  generalize β 1 = p2 at h
  clear β
  show Code.wp Tryd.prog _ _ a w
  refine wp_seq ?_
  obtain ⟨r3, hr3, hF⟩ := bind_some hF
  obtain ⟨r4, hr4, hF⟩ := bind_some hF
  obtain ⟨r5, hr5, hF⟩ := bind_some hF
  obtain ⟨r6, hr6, hF⟩ := bind_some hF
  obtain ⟨r7, hr7, hF⟩ := bind_some hF
  refine region_do (n := 25) [.slot 11 100000 100000 (fun _ _ => (eqVP p_0)),
      .slot 12 100000 100000 (fun _ _ => (aggVP [bytesCk 32 a_1])),
      .slot 13 100000 100000 (fun _ _ => (strVP r3)),
      .slot 14 100000 100000 (fun _ _ => (intVP .i64 a_2)),
      .slot 15 100000 100000 (fun _ _ => (intVP .u64 (IntKind.wrap .u64 a_2))),
      .slot 16 100000 100000 (fun _ _ => (strVP r4)),
      .slot 17 100000 100000 (fun _ _ => (intVP .i64 a_3)),
      .slot 18 100000 100000 (fun _ _ => (intVP .u64 (IntKind.wrap .u64 a_3))),
      .slot 19 100000 100000 (fun _ _ => (strVP r5)),
      .slot 20 100000 100000 (fun _ _ => (intVP .i64 a_4)),
      .slot 21 100000 100000 (fun _ _ => (intVP .u64 (IntKind.wrap .u64 a_4))),
      .slot 22 100000 100000 (fun _ _ => (strVP r6)),
      .slot 23 100000 100000 (fun _ _ => (slVP strC [r3, r4, r5, r6])),
      .slot 24 100000 100000 (fun _ _ => (aggVP [bytesCk 32 r7.1])),
      .res 100000 100000 (fun _ _ => (RLog_e p_0 r7.2)),
      .res 100000 100000 (fun _ _ => (lb p2 24 [bytesCk 32 r7.1]))] [0, 1, 2, 3, 4, 5, 6, 7, 8, 9, 10, 11, 12, 13, 13, 14] [⟨[0], [], [9], [], some 11⟩, ⟨[4, 7], [], [10], [0], some 12⟩, ⟨[10], [], [11], [0, 1], some 13⟩, ⟨[1], [], [12], [0, 1, 2], some 14⟩, ⟨[12], [], [13], [0, 1, 2, 3], some 15⟩, ⟨[13], [], [14], [0, 1, 2, 3, 4], some 16⟩, ⟨[2], [], [15], [0, 1, 2, 3, 4, 5], some 17⟩, ⟨[15], [], [16], [0, 1, 2, 3, 4, 5, 6], some 18⟩, ⟨[16], [], [17], [0, 1, 2, 3, 4, 5, 6, 7], some 19⟩, ⟨[3], [], [18], [0, 1, 2, 3, 4, 5, 6, 7, 8], some 20⟩, ⟨[18], [], [19], [0, 1, 2, 3, 4, 5, 6, 7, 8, 9], some 21⟩, ⟨[19], [], [20], [0, 1, 2, 3, 4, 5, 6, 7, 8, 9, 10], some 22⟩, ⟨[11, 14, 17, 20], [], [21], [0, 1, 2, 3, 4, 5, 6, 7, 8, 9, 10, 11], some 23⟩, ⟨[9, 21], [6], [22, 23], [0, 1, 2, 3, 4, 5, 6, 7, 8, 9, 10, 11, 12], some 24⟩, ⟨[5, 22], [8], [24], [0, 1, 2, 3, 4, 5, 6, 7, 8, 9, 10, 11, 12, 13], none⟩] [5, 24, 23] mixed hn hG h (by kernel_rfl) ?_ ?_
  · exact ⟨⟨rfl, fun β => (GOk.plain (op_move (opt 0 rfl)) rfl)⟩, ⟨rfl, fun β => (GOk.plain (op_load_lb [] [bytesCk 32 a_1] [] 1 Tryd.isAgg24 Tryd.sizeOf24 (opt 0 rfl) rfl rfl rfl) rfl)⟩, ⟨rfl, fun β => (GOk.plain (op_call Tryd.call42 (ref03_Bytes_ok hr3) ⟨(opt 0 rfl), trivial⟩) rfl)⟩, ⟨rfl, fun β => (GOk.plain (op_move (opt 0 rfl)) rfl)⟩, ⟨rfl, fun β => (GOk.plain (op_convert_int Tryd.underlying3 Tryd.underlying84 (opt 0 rfl)) rfl)⟩, ⟨rfl, fun β => (GOk.plain (op_call Tryd.call49 (ref03_Big_ok hr4) ⟨(opt 0 rfl), (opc (ic (by decide))), trivial⟩) rfl)⟩, ⟨rfl, fun β => (GOk.plain (op_move (opt 0 rfl)) rfl)⟩, ⟨rfl, fun β => (GOk.plain (op_convert_int Tryd.underlying3 Tryd.underlying84 (opt 0 rfl)) rfl)⟩, ⟨rfl, fun β => (GOk.plain (op_call Tryd.call49 (ref03_Big_ok hr5) ⟨(opt 0 rfl), (opc (ic (by decide))), trivial⟩) rfl)⟩, ⟨rfl, fun β => (GOk.plain (op_move (opt 0 rfl)) rfl)⟩, ⟨rfl, fun β => (GOk.plain (op_convert_int Tryd.underlying3 Tryd.underlying84 (opt 0 rfl)) rfl)⟩, ⟨rfl, fun β => (GOk.plain (op_call Tryd.call49 (ref03_Big_ok hr6) ⟨(opt 0 rfl), (opc (ic (by decide))), trivial⟩) rfl)⟩, ⟨rfl, fun β => (GOk.plain (op_lit (xs := [.tmp 13, .tmp 16, .tmp 19, .tmp 22]) (ys := [r3, r4, r5, r6]) _ rfl Tryd.underlying22 Tryd.sizeOf9 Tryd.zeroValue9 rfl rfl (by decide) (by decide) ⟨⟨_, (opt 0 rfl), (cells_one (one_str _))⟩, ⟨_, (opt 1 rfl), (cells_one (one_str _))⟩, ⟨_, (opt 2 rfl), (cells_one (one_str _))⟩, ⟨_, (opt 3 rfl), (cells_one (one_str _))⟩, trivial⟩ lens_strC) rfl)⟩, ⟨rfl, fun β => (GOk.plain (op_call Tryd.call20 (ref04_Log_Of_ok hr7) ⟨(opt 0 rfl), (opc (ic (by decide))), (opt 1 rfl), trivial⟩) rfl)⟩, ⟨rfl, fun β => (GOk.plain (op_store_lb [] [bytesCk 32 (List.replicate 32 0)] [] [bytesCk 32 r7.1] Tryd.sizeOf24 (opt 0 rfl) (opt 1 rfl) (cells_agg _) rfl rfl rfl) rfl)⟩, trivial⟩
  clear h
  intro β a w h
  change SatL c [.slot 10 (lpVP p2 0), .res (lb p2 24 [bytesCk 32 r7.1]), .res (RLog_e p_0 r7.2)] a w at h
  clear β
  show Code.wp Tryd.prog _ _ a w
  refine wp_ret ?_
  obtain rfl := Option.some.inj hF
  exact ⟨.inl rfl, ret1 h Tryd.results32 (r_cell 0 1 rfl rfl Tryd.isAgg24 Tryd.sizeOf24 rfl) [2] [(RLog_e p_0 r7.2)] rfl rfl rfl⟩

def ref05_Public (L_0 : Option O_RLog) (a_1 : List UInt8) : Option ((List UInt8) × (Option O_RLog)) := ((ref03_Bytes a_1).bind fun r3 => ((ref04_Log_Of L_0 2 [r3]).bind fun r4 => some (r4.1, r4.2)))
theorem ref05_Public_ok {p_0 : Value} {L_0 : Option O_RLog} {a_1 : List UInt8} {r : (List UInt8) × (Option O_RLog)} (hF : ref05_Public L_0 a_1 = some r) : CallOk Tryd.prog KG 35 [(eqVP p_0), (aggVP [bytesCk 32 a_1])] [(RLog_e p_0 L_0)] (fun _ => [RLog_e p_0 r.2]) (aggVP [bytesCk 32 r.1]) := by
  refine CallOk.intro 10 Tryd.func35 rfl Tryd.ntmps35 (Nat.le_of_ble_eq_true rfl) ?_
  intro c a w hG hn h
  unfold ref05_Public at hF
  change SatL c [.slot 0 (eqVP p_0), .slot 1 (aggVP [bytesCk 32 a_1]), .res (RLog_e p_0 L_0)] a w at h
  refine wp_seq ?_
  refine region_do (n := 10) [.slot 3 0 100000 (fun v1_ _ => (lpVP v1_ 0)),
      .res 0 100000 (fun v1_ _ => (lb (v1_) 24 [bytesCk 32 a_1])),
      .slot 4 1 100000 (fun v1_ _ => (lpVP v1_ 0)),
      .res 1 100000 (fun v1_ _ => (lb (v1_) 24 [bytesCk 32 (List.replicate 32 0)]))] [0, 0, 1, 1] [⟨[1], [], [3, 4], [], some 3⟩, ⟨[], [], [5, 6], [0], some 4⟩] [0, 3, 5, 2, 4, 6] mixed hn hG h (by kernel_rfl) ?_ ?_
  · exact ⟨⟨rfl, fun β => (GOk.plain (op_box (opt 0 rfl) (cells_agg _)) rfl)⟩, ⟨rfl, fun β => (GOk.plain (op_alloc Tryd.zeroValue24 z24) rfl)⟩, trivial⟩
  clear h
  intro β a w h
  change SatL c [.slot 0 (eqVP p_0), .slot 3 (lpVP (β 0) 0), .slot 4 (lpVP (β 1) 0), .res (RLog_e p_0 L_0), .res (lb (β 0) 24 [bytesCk 32 a_1]), .res (lb (β 1) 24 [bytesCk 32 (List.replicate 32 0)])] a w at h
  generalize β 0 = p1 at h
  generalize β 1 = p2 at h
  clear β
  show Code.wp Tryd.prog _ _ a w
  refine wp_seq ?_
  obtain ⟨r3, hr3, hF⟩ := bind_some hF
  obtain ⟨r4, hr4, hF⟩ := bind_some hF
  refine region_do (n := 10) [.slot 5 100000 100000 (fun _ _ => (eqVP p_0)),
      .slot 6 100000 100000 (fun _ _ => (aggVP [bytesCk 32 a_1])),
      .slot 7 100000 100000 (fun _ _ => (strVP r3)),
      .slot 8 100000 100000 (fun _ _ => (slVP strC [r3])),
      .slot 9 100000 100000 (fun _ _ => (aggVP [bytesCk 32 r4.1])),
      .res 100000 100000 (fun _ _ => (RLog_e p_0 r4.2)),
      .res 100000 100000 (fun _ _ => (lb p2 24 [bytesCk 32 r4.1]))] [0, 1, 2, 3, 4, 4, 5] [⟨[0], [], [6], [], some 5⟩, ⟨[1, 4], [], [7], [0], some 6⟩, ⟨[7], [], [8], [0, 1], some 7⟩, ⟨[8], [], [9], [0, 1, 2], some 8⟩, ⟨[6, 9], [3], [10, 11], [0, 1, 2, 3], some 9⟩, ⟨[2, 10], [5], [12], [0, 1, 2, 3, 4], none⟩] [2, 12, 11] mixed hn hG h (by kernel_rfl) ?_ ?_
  · exact ⟨⟨rfl, fun β => (GOk.plain (op_move (opt 0 rfl)) rfl)⟩, ⟨rfl, fun β => (GOk.plain (op_load_lb [] [bytesCk 32 a_1] [] 1 Tryd.isAgg24 Tryd.sizeOf24 (opt 0 rfl) rfl rfl rfl) rfl)⟩, ⟨rfl, fun β => (GOk.plain (op_call Tryd.call42 (ref03_Bytes_ok hr3) ⟨(opt 0 rfl), trivial⟩) rfl)⟩, ⟨rfl, fun β => (GOk.plain (op_lit (xs := [.tmp 7]) (ys := [r3]) _ rfl Tryd.underlying22 Tryd.sizeOf9 Tryd.zeroValue9 rfl rfl (by decide) (by decide) ⟨⟨_, (opt 0 rfl), (cells_one (one_str _))⟩, trivial⟩ lens_strC) rfl)⟩, ⟨rfl, fun β => (GOk.plain (op_call Tryd.call20 (ref04_Log_Of_ok hr4) ⟨(opt 0 rfl), (opc (ic (by decide))), (opt 1 rfl), trivial⟩) rfl)⟩, ⟨rfl, fun β => (GOk.plain (op_store_lb [] [bytesCk 32 (List.replicate 32 0)] [] [bytesCk 32 r4.1] Tryd.sizeOf24 (opt 0 rfl) (opt 1 rfl) (cells_agg _) rfl rfl rfl) rfl)⟩, trivial⟩
  clear h
  intro β a w h
  change SatL c [.slot 4 (lpVP p2 0), .res (lb p2 24 [bytesCk 32 r4.1]), .res (RLog_e p_0 r4.2)] a w at h
  clear β
  show Code.wp Tryd.prog _ _ a w
  refine wp_ret ?_
  obtain rfl := Option.some.inj hF
  exact ⟨.inl rfl, ret1 h Tryd.results35 (r_cell 0 1 rfl rfl Tryd.isAgg24 Tryd.sizeOf24 rfl) [2] [(RLog_e p_0 r4.2)] rfl rfl rfl⟩

def ref05_Word.b2 (a_1 : List UInt8) (a_2 : Int) (x54 : Int) (x90 : Int) (x91 : Option O_RLog) (x92 : List (UInt8)) : Option (Flow ((List UInt8) × (Option O_RLog)) (Int × (Option O_RLog) × (List (UInt8)))) := (if (decide (x90 < (2 : Int))) = true then ((ref05_Secret x91 a_1 a_2 x54 x90).bind fun r105 => ((ref05_Public r105.2 r105.1).bind fun r106 => ((ref03_Bytes r106.1).bind fun r107 => (if x92.length + r107.length ≤ mxl ∧ (x92.length + r107.length) * 1 ≤ 140737488355328 then some (.cont (IntKind.wrap .i64 (x90 + 1), r106.2, x92 ++ r107)) else none)))) else some (.brk (x90, x91, x92)))
def ref05_Word.b1 (a_1 : List UInt8) (a_2 : Int) (x54 : Int) (x55 : Option O_RLog) (x56 : List (UInt8)) : Option (Flow ((List UInt8) × (Option O_RLog)) (Int × (Option O_RLog) × (List (UInt8)))) := (if (decide (x54 < (32 : Int))) = true then ((loopN (fun s : Int × (Option O_RLog) × (List (UInt8)) => ref05_Word.b2 a_1 a_2 x54 s.1 s.2.1 s.2.2) ((2 - 0 : Int).toNat + 2) (0, x55, x56)).bind fun cr => match cr with | .ret r => some (.ret r) | .next (y114, y115, y116) => some (.cont (IntKind.wrap .i64 (x54 + 1), y115, y116))) else some (.brk (x54, x55, x56)))
def ref05_Word (L_0 : Option O_RLog) (a_1 : List UInt8) (a_2 : Int) : Option ((List UInt8) × (Option O_RLog)) := ((loopN (fun s : Int × (Option O_RLog) × (List (UInt8)) => ref05_Word.b1 a_1 a_2 s.1 s.2.1 s.2.2) ((32 - 0 : Int).toNat + 2) (0, L_0, [])).bind fun cr => match cr with | .ret r => some r | .next (y121, y122, y123) => ((ref04_Log_Of y122 3 [y123]).bind fun r124 => some (r124.1, r124.2)))
theorem ref05_Word_ok {p_0 : Value} {L_0 : Option O_RLog} {a_1 : List UInt8} {a_2 : Int} {r : (List UInt8) × (Option O_RLog)} (hF : ref05_Word L_0 a_1 a_2 = some r) : CallOk Tryd.prog KG 28 [(eqVP p_0), (aggVP [bytesCk 32 a_1]), (intVP .i64 a_2)] [(RLog_e p_0 L_0)] (fun _ => [RLog_e p_0 r.2]) (aggVP [bytesCk 32 r.1]) := by
  refine CallOk.intro 34 Tryd.func28 rfl Tryd.ntmps28 (Nat.le_of_ble_eq_true rfl) ?_
  intro c a w hG hn h
  unfold ref05_Word at hF
  change SatL c [.slot 0 (eqVP p_0), .slot 1 (aggVP [bytesCk 32 a_1]), .slot 2 (intVP .i64 a_2), .res (RLog_e p_0 L_0)] a w at h
  refine wp_seq ?_
  refine region_do (n := 34) [.slot 4 0 100000 (fun v1_ _ => (lpVP v1_ 0)),
      .res 0 100000 (fun v1_ _ => (lb (v1_) 24 [bytesCk 32 a_1])),
      .slot 6 1 100000 (fun v1_ _ => (lpVP v1_ 0)),
      .res 1 100000 (fun v1_ _ => (lb (v1_) 24 [bytesCk 32 (List.replicate 32 0)]))] [0, 0, 1, 1] [⟨[1], [], [4, 5], [], some 4⟩, ⟨[], [], [6, 7], [0], some 6⟩] [0, 2, 4, 6, 3, 5, 7] mixed hn hG h (by kernel_rfl) ?_ ?_
  · exact ⟨⟨rfl, fun β => (GOk.plain (op_box (opt 0 rfl) (cells_agg _)) rfl)⟩, ⟨rfl, fun β => (GOk.plain (op_alloc Tryd.zeroValue24 z24) rfl)⟩, trivial⟩
  clear h
  intro β a w h
  change SatL c [.slot 0 (eqVP p_0), .slot 2 (intVP .i64 a_2), .slot 4 (lpVP (β 0) 0), .slot 6 (lpVP (β 1) 0), .res (RLog_e p_0 L_0), .res (lb (β 0) 24 [bytesCk 32 a_1]), .res (lb (β 1) 24 [bytesCk 32 (List.replicate 32 0)])] a w at h
  generalize β 0 = p1 at h
  generalize β 1 = p2 at h
  clear β
  show Code.wp Tryd.prog _ _ a w
  refine wp_seq ?_
  refine region_do (n := 34) [.slot 7 100000 100000 (fun _ _ => (eqVP (.slice none 0 0)))] [0] [⟨[], [], [7], [], some 7⟩] [0, 1, 2, 3, 7, 4, 5, 6] mixed hn hG h (by kernel_rfl) ?_ ?_
  · exact ⟨⟨rfl, fun β => (GOk.plain (op_assign (opc (ec _))) rfl)⟩, trivial⟩
  clear h
  intro β a w h
  change SatL c [.slot 0 (eqVP p_0), .slot 2 (intVP .i64 a_2), .slot 4 (lpVP p1 0), .slot 6 (lpVP p2 0), .slot 7 (eqVP (.slice none 0 0)), .res (RLog_e p_0 L_0), .res (lb p1 24 [bytesCk 32 a_1]), .res (lb p2 24 [bytesCk 32 (List.replicate 32 0)])] a w at h
  clear β
  show Code.wp Tryd.prog _ _ a w
  refine wp_seq ?_
  refine wp_seq ?_
  refine region_do (n := 34) [.slot 8 100000 100000 (fun _ _ => (intVP .i64 0))] [0] [⟨[], [], [8], [], some 8⟩] [0, 1, 2, 3, 4, 8, 5, 6, 7] mixed hn hG h (by kernel_rfl) ?_ ?_
  · exact ⟨⟨rfl, fun β => (GOk.plain (op_assign (opc (ic (by decide)))) rfl)⟩, trivial⟩
  clear h
  intro β a w h
  change SatL c [.slot 0 (eqVP p_0), .slot 2 (intVP .i64 a_2), .slot 4 (lpVP p1 0), .slot 6 (lpVP p2 0), .slot 7 (eqVP (.slice none 0 0)), .slot 8 (intVP .i64 0), .res (RLog_e p_0 L_0), .res (lb p1 24 [bytesCk 32 a_1]), .res (lb p2 24 [bytesCk 32 (List.replicate 32 0)])] a w at h
  clear β
  show Code.wp Tryd.prog _ _ a w
  refine wp_block ?_
  obtain ⟨q32, h⟩ : ∃ q32 : Value, SatL c [.slot 0 (eqVP p_0), .slot 2 (intVP .i64 a_2), .slot 4 (lpVP p1 0), .slot 6 (lpVP p2 0), .slot 7 (eqVP q32), .slot 8 (intVP .i64 0), .res (RLog_e p_0 L_0), .res (lb p1 24 [bytesCk 32 a_1]), .res (lb p2 24 [bytesCk 32 (List.replicate 32 0)]), .res (acc q32 5 1 bC [])] a w := ⟨.slice none 0 0, (h.nilacc 5 1 bC).sub [0, 1, 2, 3, 4, 5, 6, 7, 8, 9] (by rfl)⟩
  obtain ⟨cr117, hl118, hF⟩ := bind_some hF
  refine wp_mono (wp_loopN (R := (List UInt8) × (Option O_RLog)) (S := Int × (Option O_RLog) × (List (UInt8))) (fun s a w => ∃ q57 : Value, SatL c [.slot 0 (eqVP p_0), .slot 2 (intVP .i64 a_2), .slot 4 (lpVP p1 0), .slot 6 (lpVP p2 0), .slot 7 (eqVP q57), .slot 8 (intVP .i64 s.1), .res (RLog_e p_0 s.2.1), .res (lb p1 24 [bytesCk 32 a_1]), .res (lb p2 24 [bytesCk 32 (List.replicate 32 0)]), .res (acc q57 5 1 bC s.2.2)] a w) (fun res e a w => match res with | .next s => e = .exit 0 ∧ ∃ q57 : Value, SatL c [.slot 0 (eqVP p_0), .slot 6 (lpVP p2 0), .slot 7 (eqVP q57), .res (RLog_e p_0 s.2.1), .res (lb p2 24 [bytesCk 32 (List.replicate 32 0)]), .res (acc q57 5 1 bC s.2.2)] a w | .ret r => e = .ret ∧ RetOk Tryd.prog Tryd.f28 c (aggVP [bytesCk 32 r.1]) (fun _ => [RLog_e p_0 r.2]) a w) ?_ _ (0, L_0, []) _ _ _ ⟨q32, (h.sub [0, 1, 2, 3, 4, 5, 6, 7, 8, 9] (by rfl))⟩ hl118) ?_
  · clear hl118 hF h
    intro s a w o h hF
    obtain ⟨x54, x55, x56⟩ := s
    obtain ⟨q57, h⟩ := h
    change ref05_Word.b1 a_1 a_2 x54 x55 x56 = some o at hF
    unfold ref05_Word.b1 at hF
    change SatL c [.slot 0 (eqVP p_0), .slot 2 (intVP .i64 a_2), .slot 4 (lpVP p1 0), .slot 6 (lpVP p2 0), .slot 7 (eqVP q57), .slot 8 (intVP .i64 x54), .res (RLog_e p_0 x55), .res (lb p1 24 [bytesCk 32 a_1]), .res (lb p2 24 [bytesCk 32 (List.replicate 32 0)]), .res (acc q57 5 1 bC x56)] a w at h
    refine wp_seq ?_
    refine wp_seq ?_
    refine region_do (n := 34) [.slot 10 100000 100000 (fun _ _ => (intVP .i64 x54)),
      .slot 11 100000 100000 (fun _ _ => (boolVP (decide (x54 < (32 : Int)))))] [0, 1] [⟨[5], [], [10], [], some 10⟩, ⟨[10], [], [11], [0], some 11⟩] [0, 1, 2, 3, 4, 5, 11, 6, 7, 8, 9] mixed hn hG h (by kernel_rfl) ?_ ?_
    · exact ⟨⟨rfl, fun β => (GOk.plain (op_move (opt 0 rfl)) rfl)⟩, ⟨rfl, fun β => (GOk.plain (op_bin bin_lss (opt 0 rfl) (opc (ic (by decide)))) rfl)⟩, trivial⟩
    clear h
    intro β a w h
    change SatL c [.slot 0 (eqVP p_0), .slot 2 (intVP .i64 a_2), .slot 4 (lpVP p1 0), .slot 6 (lpVP p2 0), .slot 7 (eqVP q57), .slot 8 (intVP .i64 x54), .slot 11 (boolVP (decide (x54 < (32 : Int)))), .res (RLog_e p_0 x55), .res (lb p1 24 [bytesCk 32 a_1]), .res (lb p2 24 [bytesCk 32 (List.replicate 32 0)]), .res (acc q57 5 1 bC x56)] a w at h
    clear β
    show Code.wp Tryd.prog _ _ a w
    refine cond_L h 6 rfl (fun hb83 => ?_) (fun hb83 => ?_)
    · replace hF := tt_of hb83 hF
      replace h := h.sub [0, 1, 2, 3, 4, 5, 7, 8, 9, 10] (by rfl)
      change SatL c [.slot 0 (eqVP p_0), .slot 2 (intVP .i64 a_2), .slot 4 (lpVP p1 0), .slot 6 (lpVP p2 0), .slot 7 (eqVP q57), .slot 8 (intVP .i64 x54), .res (RLog_e p_0 x55), .res (lb p1 24 [bytesCk 32 a_1]), .res (lb p2 24 [bytesCk 32 (List.replicate 32 0)]), .res (acc q57 5 1 bC x56)] a w at h
      refine wp_skip ?_
      show Code.wp Tryd.prog _ _ a w
      refine wp_seq ?_
      refine wp_block ?_
      refine wp_seq ?_
      refine region_do (n := 34) [.slot 9 100000 100000 (fun _ _ => (intVP .i64 0))] [0] [⟨[], [], [10], [], some 9⟩] [0, 1, 2, 3, 4, 5, 10, 6, 7, 8, 9] mixed hn hG h (by kernel_rfl) ?_ ?_
      · exact ⟨⟨rfl, fun β => (GOk.plain (op_assign (opc (ic (by decide)))) rfl)⟩, trivial⟩
      clear h
      intro β a w h
      change SatL c [.slot 0 (eqVP p_0), .slot 2 (intVP .i64 a_2), .slot 4 (lpVP p1 0), .slot 6 (lpVP p2 0), .slot 7 (eqVP q57), .slot 8 (intVP .i64 x54), .slot 9 (intVP .i64 0), .res (RLog_e p_0 x55), .res (lb p1 24 [bytesCk 32 a_1]), .res (lb p2 24 [bytesCk 32 (List.replicate 32 0)]), .res (acc q57 5 1 bC x56)] a w at h
      clear β
      show Code.wp Tryd.prog _ _ a w
      refine wp_block ?_
      obtain ⟨cr110, hl111, hF⟩ := bind_some hF
      refine wp_mono (wp_loopN (R := (List UInt8) × (Option O_RLog)) (S := Int × (Option O_RLog) × (List (UInt8))) (fun s a w => ∃ q93 : Value, SatL c [.slot 0 (eqVP p_0), .slot 2 (intVP .i64 a_2), .slot 4 (lpVP p1 0), .slot 6 (lpVP p2 0), .slot 7 (eqVP q93), .slot 8 (intVP .i64 x54), .slot 9 (intVP .i64 s.1), .res (RLog_e p_0 s.2.1), .res (lb p1 24 [bytesCk 32 a_1]), .res (lb p2 24 [bytesCk 32 (List.replicate 32 0)]), .res (acc q93 5 1 bC s.2.2)] a w) (fun res e a w => match res with | .next s => e = .exit 2 ∧ ∃ q93 : Value, SatL c [.slot 0 (eqVP p_0), .slot 2 (intVP .i64 a_2), .slot 4 (lpVP p1 0), .slot 6 (lpVP p2 0), .slot 7 (eqVP q93), .slot 8 (intVP .i64 x54), .res (RLog_e p_0 s.2.1), .res (lb p1 24 [bytesCk 32 a_1]), .res (lb p2 24 [bytesCk 32 (List.replicate 32 0)]), .res (acc q93 5 1 bC s.2.2)] a w | .ret r => e = .ret ∧ RetOk Tryd.prog Tryd.f28 c (aggVP [bytesCk 32 r.1]) (fun _ => [RLog_e p_0 r.2]) a w) ?_ _ (0, x55, x56) _ _ _ ⟨q57, (h.sub [0, 1, 2, 3, 4, 5, 6, 7, 8, 9, 10] (by rfl))⟩ hl111) ?_
      · clear hl111 hF h
        intro s a w o h hF
        obtain ⟨x90, x91, x92⟩ := s
        obtain ⟨q93, h⟩ := h
        change ref05_Word.b2 a_1 a_2 x54 x90 x91 x92 = some o at hF
        unfold ref05_Word.b2 at hF
        change SatL c [.slot 0 (eqVP p_0), .slot 2 (intVP .i64 a_2), .slot 4 (lpVP p1 0), .slot 6 (lpVP p2 0), .slot 7 (eqVP q93), .slot 8 (intVP .i64 x54), .slot 9 (intVP .i64 x90), .res (RLog_e p_0 x91), .res (lb p1 24 [bytesCk 32 a_1]), .res (lb p2 24 [bytesCk 32 (List.replicate 32 0)]), .res (acc q93 5 1 bC x92)] a w at h
        refine wp_seq ?_
        refine wp_seq ?_
        refine region_do (n := 34) [.slot 14 100000 100000 (fun _ _ => (intVP .i64 x90)),
      .slot 15 100000 100000 (fun _ _ => (boolVP (decide (x90 < (2 : Int)))))] [0, 1] [⟨[6], [], [11], [], some 14⟩, ⟨[11], [], [12], [0], some 15⟩] [0, 1, 2, 3, 4, 5, 6, 12, 7, 8, 9, 10] mixed hn hG h (by kernel_rfl) ?_ ?_
        · exact ⟨⟨rfl, fun β => (GOk.plain (op_move (opt 0 rfl)) rfl)⟩, ⟨rfl, fun β => (GOk.plain (op_bin bin_lss (opt 0 rfl) (opc (ic (by decide)))) rfl)⟩, trivial⟩
        clear h
        intro β a w h
        change SatL c [.slot 0 (eqVP p_0), .slot 2 (intVP .i64 a_2), .slot 4 (lpVP p1 0), .slot 6 (lpVP p2 0), .slot 7 (eqVP q93), .slot 8 (intVP .i64 x54), .slot 9 (intVP .i64 x90), .slot 15 (boolVP (decide (x90 < (2 : Int)))), .res (RLog_e p_0 x91), .res (lb p1 24 [bytesCk 32 a_1]), .res (lb p2 24 [bytesCk 32 (List.replicate 32 0)]), .res (acc q93 5 1 bC x92)] a w at h
        clear β
        show Code.wp Tryd.prog _ _ a w
        refine cond_L h 7 rfl (fun hb104 => ?_) (fun hb104 => ?_)
        · replace hF := tt_of hb104 hF
          replace h := h.sub [0, 1, 2, 3, 4, 5, 6, 8, 9, 10, 11] (by rfl)
          change SatL c [.slot 0 (eqVP p_0), .slot 2 (intVP .i64 a_2), .slot 4 (lpVP p1 0), .slot 6 (lpVP p2 0), .slot 7 (eqVP q93), .slot 8 (intVP .i64 x54), .slot 9 (intVP .i64 x90), .res (RLog_e p_0 x91), .res (lb p1 24 [bytesCk 32 a_1]), .res (lb p2 24 [bytesCk 32 (List.replicate 32 0)]), .res (acc q93 5 1 bC x92)] a w at h
          refine wp_skip ?_
          show Code.wp Tryd.prog _ _ a w
          refine wp_seq ?_
          refine wp_block ?_
          obtain ⟨r105, hr105, hF⟩ := bind_some hF
          obtain ⟨r106, hr106, hF⟩ := bind_some hF
          obtain ⟨r107, hr107, hF⟩ := bind_some hF
          obtain ⟨hv108, hF⟩ := ite_some hF
          refine region_do (n := 34) [.slot 18 100000 100000 (fun _ _ => (eqVP q93)),
      .slot 19 100000 100000 (fun _ _ => (eqVP p_0)),
      .slot 20 100000 100000 (fun _ _ => (eqVP p_0)),
      .slot 21 100000 100000 (fun _ _ => (aggVP [bytesCk 32 a_1])),
      .slot 22 100000 100000 (fun _ _ => (intVP .i64 a_2)),
      .slot 23 100000 100000 (fun _ _ => (intVP .i64 x54)),
      .slot 24 100000 100000 (fun _ _ => (intVP .i64 x90)),
      .slot 25 100000 100000 (fun _ _ => (aggVP [bytesCk 32 r105.1])),
      .res 100000 100000 (fun _ _ => (RLog_e p_0 r105.2)),
      .slot 26 100000 100000 (fun _ _ => (aggVP [bytesCk 32 r106.1])),
      .res 100000 100000 (fun _ _ => (RLog_e p_0 r106.2)),
      .slot 27 100000 100000 (fun _ _ => (strVP r107)),
      .slot 28 10 100000 (fun v1_ _ => (eqVP v1_)),
      .res 10 100000 (fun v1_ _ => (acc (v1_) 5 1 bC (x92 ++ r107))),
      .slot 7 10 100000 (fun v1_ _ => (eqVP v1_))] [0, 1, 2, 3, 4, 5, 6, 7, 7, 8, 8, 9, 10, 10, 11] [⟨[4], [], [11], [], some 18⟩, ⟨[0], [], [12], [0], some 19⟩, ⟨[0], [], [13], [0, 1], some 20⟩, ⟨[2, 8], [], [14], [0, 1, 2], some 21⟩, ⟨[1], [], [15], [0, 1, 2, 3], some 22⟩, ⟨[5], [], [16], [0, 1, 2, 3, 4], some 23⟩, ⟨[6], [], [17], [0, 1, 2, 3, 4, 5], some 24⟩, ⟨[13, 14, 15, 16, 17], [7], [18, 19], [0, 1, 2, 3, 4, 5, 6], some 25⟩, ⟨[12, 18], [19], [20, 21], [0, 1, 2, 3, 4, 5, 6, 7], some 26⟩, ⟨[20], [], [22], [0, 1, 2, 3, 4, 5, 6, 7, 8], some 27⟩, ⟨[11, 22], [10], [23, 24], [0, 1, 2, 3, 4, 5, 6, 7, 8, 9], some 28⟩, ⟨[23], [4], [25], [0, 1, 2, 3, 4, 5, 6, 7, 8, 9, 10], some 7⟩] [0, 1, 2, 3, 25, 5, 6, 8, 9, 21, 24] mixed hn hG h (by kernel_rfl) ?_ ?_
          · exact ⟨⟨rfl, fun β => (GOk.plain (op_move (opt 0 rfl)) rfl)⟩, ⟨rfl, fun β => (GOk.plain (op_move (opt 0 rfl)) rfl)⟩, ⟨rfl, fun β => (GOk.plain (op_move (opt 0 rfl)) rfl)⟩, ⟨rfl, fun β => (GOk.plain (op_load_lb [] [bytesCk 32 a_1] [] 1 Tryd.isAgg24 Tryd.sizeOf24 (opt 0 rfl) rfl rfl rfl) rfl)⟩, ⟨rfl, fun β => (GOk.plain (op_move (opt 0 rfl)) rfl)⟩, ⟨rfl, fun β => (GOk.plain (op_move (opt 0 rfl)) rfl)⟩, ⟨rfl, fun β => (GOk.plain (op_move (opt 0 rfl)) rfl)⟩, ⟨rfl, fun β => (GOk.plain (op_call Tryd.call32 (ref05_Secret_ok hr105) ⟨(opt 0 rfl), (opt 1 rfl), (opt 2 rfl), (opt 3 rfl), (opt 4 rfl), trivial⟩) rfl)⟩, ⟨rfl, fun β => (GOk.plain (op_call Tryd.call35 (ref05_Public_ok hr106) ⟨(opt 0 rfl), (opt 1 rfl), trivial⟩) rfl)⟩, ⟨rfl, fun β => (GOk.plain (op_call Tryd.call42 (ref03_Bytes_ok hr107) ⟨(opt 0 rfl), trivial⟩) rfl)⟩, ⟨rfl, fun β => (GOk.plain (op_append_str Tryd.underlying79 Tryd.underlying9 Tryd.type5 rfl rfl rfl rfl (opt 0 rfl) (opt 1 rfl) hv108) rfl)⟩, ⟨rfl, fun β => (GOk.drop _ (GOk.plain (op_assign (V := (eqVP (β 10))) (opt 0 rfl)) rfl))⟩, trivial⟩
          clear h
          intro β a w h
          change SatL c [.slot 0 (eqVP p_0), .slot 2 (intVP .i64 a_2), .slot 4 (lpVP p1 0), .slot 6 (lpVP p2 0), .slot 7 (eqVP (β 10)), .slot 8 (intVP .i64 x54), .slot 9 (intVP .i64 x90), .res (lb p1 24 [bytesCk 32 a_1]), .res (lb p2 24 [bytesCk 32 (List.replicate 32 0)]), .res (RLog_e p_0 r106.2), .res (acc (β 10) 5 1 bC (x92 ++ r107))] a w at h
          generalize β 10 = p109 at h
          clear β
          show Code.wp Tryd.prog _ _ a w
          refine region_do (n := 34) [.slot 16 100000 100000 (fun _ _ => (intVP .i64 x90)),
      .slot 17 100000 100000 (fun _ _ => (intVP .i64 (IntKind.wrap .i64 (x90 + 1)))),
      .slot 9 100000 100000 (fun _ _ => (intVP .i64 (IntKind.wrap .i64 (x90 + 1))))] [0, 1, 2] [⟨[6], [], [11], [], some 16⟩, ⟨[11], [], [12], [0], some 17⟩, ⟨[12], [6], [13], [0, 1], some 9⟩] [0, 1, 2, 3, 4, 5, 13, 7, 8, 9, 10] mixed hn hG h (by kernel_rfl) ?_ ?_
          · exact ⟨⟨rfl, fun β => (GOk.plain (op_move (opt 0 rfl)) rfl)⟩, ⟨rfl, fun β => (GOk.plain (op_bin bin_add (opt 0 rfl) (opc (ic (by decide)))) rfl)⟩, ⟨rfl, fun β => (GOk.drop _ (GOk.plain (op_assign (opt 0 rfl)) rfl))⟩, trivial⟩
          clear h
          intro β a w h
          change SatL c [.slot 0 (eqVP p_0), .slot 2 (intVP .i64 a_2), .slot 4 (lpVP p1 0), .slot 6 (lpVP p2 0), .slot 7 (eqVP p109), .slot 8 (intVP .i64 x54), .slot 9 (intVP .i64 (IntKind.wrap .i64 (x90 + 1))), .res (lb p1 24 [bytesCk 32 a_1]), .res (lb p2 24 [bytesCk 32 (List.replicate 32 0)]), .res (RLog_e p_0 r106.2), .res (acc p109 5 1 bC (x92 ++ r107))] a w at h
          clear β
          obtain rfl := Option.some.inj hF
          exact ⟨rfl, p109, h.sub [0, 1, 2, 3, 4, 5, 6, 9, 7, 8, 10] (by rfl)⟩
        · replace hF := ff_of hb104 hF
          replace h := h.sub [0, 1, 2, 3, 4, 5, 6, 8, 9, 10, 11] (by rfl)
          change SatL c [.slot 0 (eqVP p_0), .slot 2 (intVP .i64 a_2), .slot 4 (lpVP p1 0), .slot 6 (lpVP p2 0), .slot 7 (eqVP q93), .slot 8 (intVP .i64 x54), .slot 9 (intVP .i64 x90), .res (RLog_e p_0 x91), .res (lb p1 24 [bytesCk 32 a_1]), .res (lb p2 24 [bytesCk 32 (List.replicate 32 0)]), .res (acc q93 5 1 bC x92)] a w at h
          refine wp_exit ?_
          obtain rfl := Option.some.inj hF
          exact ⟨exit_ne _, rfl, q93, h.sub [0, 1, 2, 3, 4, 5, 7, 8, 9, 10] (by rfl)⟩
      · clear hl111
        intro e a w hq
        cases cr110 with
        | ret r112 =>
          obtain ⟨rfl, hq⟩ := hq
          obtain rfl := Option.some.inj hF
          exact ⟨ret_ne, rfl, hq⟩
        | next s113 =>
          obtain ⟨y114, y115, y116⟩ := s113
          obtain ⟨rfl, q93, h⟩ := hq
          change SatL c [.slot 0 (eqVP p_0), .slot 2 (intVP .i64 a_2), .slot 4 (lpVP p1 0), .slot 6 (lpVP p2 0), .slot 7 (eqVP q93), .slot 8 (intVP .i64 x54), .res (RLog_e p_0 y115), .res (lb p1 24 [bytesCk 32 a_1]), .res (lb p2 24 [bytesCk 32 (List.replicate 32 0)]), .res (acc q93 5 1 bC y116)] a w at h
          refine inBlock_at ?_
          show Code.wp Tryd.prog _ _ a w
          refine region_do (n := 34) [.slot 12 100000 100000 (fun _ _ => (intVP .i64 x54)),
      .slot 13 100000 100000 (fun _ _ => (intVP .i64 (IntKind.wrap .i64 (x54 + 1)))),
      .slot 8 100000 100000 (fun _ _ => (intVP .i64 (IntKind.wrap .i64 (x54 + 1))))] [0, 1, 2] [⟨[5], [], [10], [], some 12⟩, ⟨[10], [], [11], [0], some 13⟩, ⟨[11], [5], [12], [0, 1], some 8⟩] [0, 1, 2, 3, 4, 12, 6, 7, 8, 9] mixed hn hG h (by kernel_rfl) ?_ ?_
          · exact ⟨⟨rfl, fun β => (GOk.plain (op_move (opt 0 rfl)) rfl)⟩, ⟨rfl, fun β => (GOk.plain (op_bin bin_add (opt 0 rfl) (opc (ic (by decide)))) rfl)⟩, ⟨rfl, fun β => (GOk.drop _ (GOk.plain (op_assign (opt 0 rfl)) rfl))⟩, trivial⟩
          clear h
          intro β a w h
          change SatL c [.slot 0 (eqVP p_0), .slot 2 (intVP .i64 a_2), .slot 4 (lpVP p1 0), .slot 6 (lpVP p2 0), .slot 7 (eqVP q93), .slot 8 (intVP .i64 (IntKind.wrap .i64 (x54 + 1))), .res (RLog_e p_0 y115), .res (lb p1 24 [bytesCk 32 a_1]), .res (lb p2 24 [bytesCk 32 (List.replicate 32 0)]), .res (acc q93 5 1 bC y116)] a w at h
          clear β
          obtain rfl := Option.some.inj hF
          exact ⟨rfl, q93, h.sub [0, 1, 2, 3, 4, 5, 6, 7, 8, 9] (by rfl)⟩
    · replace hF := ff_of hb83 hF
      replace h := h.sub [0, 1, 2, 3, 4, 5, 7, 8, 9, 10] (by rfl)
      change SatL c [.slot 0 (eqVP p_0), .slot 2 (intVP .i64 a_2), .slot 4 (lpVP p1 0), .slot 6 (lpVP p2 0), .slot 7 (eqVP q57), .slot 8 (intVP .i64 x54), .res (RLog_e p_0 x55), .res (lb p1 24 [bytesCk 32 a_1]), .res (lb p2 24 [bytesCk 32 (List.replicate 32 0)]), .res (acc q57 5 1 bC x56)] a w at h
      refine wp_exit ?_
      obtain rfl := Option.some.inj hF
      exact ⟨exit_ne _, rfl, q57, h.sub [0, 3, 4, 6, 8, 9] (by rfl)⟩
  · clear hl118
    intro e a w hq
    cases cr117 with
    | ret r119 =>
      obtain ⟨rfl, hq⟩ := hq
      obtain rfl := Option.some.inj hF
      exact ⟨.inl rfl, hq⟩
    | next s120 =>
      obtain ⟨y121, y122, y123⟩ := s120
      obtain ⟨rfl, q57, h⟩ := hq
      change SatL c [.slot 0 (eqVP p_0), .slot 6 (lpVP p2 0), .slot 7 (eqVP q57), .res (RLog_e p_0 y122), .res (lb p2 24 [bytesCk 32 (List.replicate 32 0)]), .res (acc q57 5 1 bC y123)] a w at h
      refine inBlock_at ?_
      show Code.wp Tryd.prog _ _ a w
      refine wp_seq ?_
      obtain ⟨r124, hr124, hF⟩ := bind_some hF
      refine region_do (n := 34) [.slot 29 100000 100000 (fun _ _ => (eqVP p_0)),
      .slot 30 100000 100000 (fun _ _ => (eqVP q57)),
      .slot 31 100000 100000 (fun _ _ => (strVP y123)),
      .slot 32 100000 100000 (fun _ _ => (slVP strC [y123])),
      .slot 33 100000 100000 (fun _ _ => (aggVP [bytesCk 32 r124.1])),
      .res 100000 100000 (fun _ _ => (RLog_e p_0 r124.2)),
      .res 100000 100000 (fun _ _ => (lb p2 24 [bytesCk 32 r124.1]))] [0, 1, 2, 3, 4, 4, 5] [⟨[0], [], [6], [], some 29⟩, ⟨[2], [], [7], [0], some 30⟩, ⟨[7, 5], [], [8], [0, 1], some 31⟩, ⟨[8], [], [9], [0, 1, 2], some 32⟩, ⟨[6, 9], [3], [10, 11], [0, 1, 2, 3], some 33⟩, ⟨[1, 10], [4], [12], [0, 1, 2, 3, 4], none⟩] [1, 12, 11] mixed hn hG h (by kernel_rfl) ?_ ?_
      · exact ⟨⟨rfl, fun β => (GOk.plain (op_move (opt 0 rfl)) rfl)⟩, ⟨rfl, fun β => (GOk.plain (op_move (opt 0 rfl)) rfl)⟩, ⟨rfl, fun β => (GOk.plain (op_conv_sl_str Tryd.underlying79 Tryd.underlying5 Tryd.underlying9 (opacc 0 1 rfl rfl)) rfl)⟩, ⟨rfl, fun β => (GOk.plain (op_lit (xs := [.tmp 31]) (ys := [y123]) _ rfl Tryd.underlying22 Tryd.sizeOf9 Tryd.zeroValue9 rfl rfl (by decide) (by decide) ⟨⟨_, (opt 0 rfl), (cells_one (one_str _))⟩, trivial⟩ lens_strC) rfl)⟩, ⟨rfl, fun β => (GOk.plain (op_call Tryd.call20 (ref04_Log_Of_ok hr124) ⟨(opt 0 rfl), (opc (ic (by decide))), (opt 1 rfl), trivial⟩) rfl)⟩, ⟨rfl, fun β => (GOk.plain (op_store_lb [] [bytesCk 32 (List.replicate 32 0)] [] [bytesCk 32 r124.1] Tryd.sizeOf24 (opt 0 rfl) (opt 1 rfl) (cells_agg _) rfl rfl rfl) rfl)⟩, trivial⟩
      clear h
      intro β a w h
      change SatL c [.slot 6 (lpVP p2 0), .res (lb p2 24 [bytesCk 32 r124.1]), .res (RLog_e p_0 r124.2)] a w at h
      clear β
      show Code.wp Tryd.prog _ _ a w
      refine wp_ret ?_
      obtain rfl := Option.some.inj hF
      exact ⟨.inl rfl, ret1 h Tryd.results28 (r_cell 0 1 rfl rfl Tryd.isAgg24 Tryd.sizeOf24 rfl) [2] [(RLog_e p_0 r124.2)] rfl rfl rfl⟩

def ref05_Opened.j2 (x46 : Int) (r75 : (List UInt8) × (Option O_RLog)) (x90 : List (UInt8)) : Option (Flow ((List UInt8) × Bool × (Option O_RLog)) (Int × (Option O_RLog) × (List (UInt8)))) := some (.cont (IntKind.wrap .i64 (x46 + 1), r75.2, x90))
def ref05_Opened.b1 (a_1 : List UInt8) (a_2 : List (List UInt8)) (a_3 : List (List UInt8)) (x46 : Int) (x47 : Option O_RLog) (x48 : List (UInt8)) : Option (Flow ((List UInt8) × Bool × (Option O_RLog)) (Int × (Option O_RLog) × (List (UInt8)))) := (if (decide (x46 < (32 : Int))) = true then (if (0 : Int) ≤ x46 ∧ x46 < a_2.length then ((ref05_Public x47 (a_2.getD x46.toNat default)).bind fun r75 => ((ref03_Bytes r75.1).bind fun r76 => ((ref05_Bit a_1 x46).bind fun r77 => (if (decide (r77 = (0 : Int))) = true then (if x48.length + r76.length ≤ mxl ∧ (x48.length + r76.length) * 1 ≤ 140737488355328 then (if (0 : Int) ≤ x46 ∧ x46 < a_3.length then ((ref03_Bytes (a_3.getD x46.toNat default)).bind fun r96 => (if (x48 ++ r76).length + r96.length ≤ mxl ∧ ((x48 ++ r76).length + r96.length) * 1 ≤ 140737488355328 then ref05_Opened.j2 x46 r75 ((x48 ++ r76) ++ r96) else none)) else none) else none) else (if (0 : Int) ≤ x46 ∧ x46 < a_3.length then ((ref03_Bytes (a_3.getD x46.toNat default)).bind fun r100 => (if x48.length + r100.length ≤ mxl ∧ (x48.length + r100.length) * 1 ≤ 140737488355328 then (if (x48 ++ r100).length + r76.length ≤ mxl ∧ ((x48 ++ r100).length + r76.length) * 1 ≤ 140737488355328 then ref05_Opened.j2 x46 r75 ((x48 ++ r100) ++ r76) else none) else none)) else none))))) else none) else some (.brk (x46, x47, x48)))
def ref05_Opened.j1 (L_0 : Option O_RLog) (a_1 : List UInt8) (a_2 : List (List UInt8)) (a_3 : List (List UInt8)) (x3 : Bool) : Option ((List UInt8) × Bool × (Option O_RLog)) := (if x3 = true then some ((List.replicate 32 0), false, L_0) else ((loopN (fun s : Int × (Option O_RLog) × (List (UInt8)) => ref05_Opened.b1 a_1 a_2 a_3 s.1 s.2.1 s.2.2) ((32 - 0 : Int).toNat + 2) (0, L_0, [])).bind fun cr => match cr with | .ret r => some r | .next (y109, y110, y111) => ((ref04_Log_Of y110 3 [y111]).bind fun r112 => some (r112.1, true, r112.2))))
def ref05_Opened (L_0 : Option O_RLog) (a_1 : List UInt8) (a_2 : List (List UInt8)) (a_3 : List (List UInt8)) : Option ((List UInt8) × Bool × (Option O_RLog)) := (if (!decide ((a_2.length : Int) = (32 : Int))) = true then ref05_Opened.j1 L_0 a_1 a_2 a_3 true else ref05_Opened.j1 L_0 a_1 a_2 a_3 (!decide ((a_3.length : Int) = (32 : Int))))
theorem ref05_Opened_ok {p_0 : Value} {L_0 : Option O_RLog} {a_1 : List UInt8} {a_2 : List (List UInt8)} {a_3 : List (List UInt8)} {r : (List UInt8) × Bool × (Option O_RLog)} (hF : ref05_Opened L_0 a_1 a_2 a_3 = some r) : CallOk Tryd.prog KG 30 [(eqVP p_0), (aggVP [bytesCk 32 a_1]), (slVP (dC 32) a_2), (slVP (dC 32) a_3)] [(RLog_e p_0 L_0)] (fun _ => [RLog_e p_0 r.2.2]) (tupVP [(aggVP [bytesCk 32 r.1]), (boolVP r.2.1)]) := by
  refine CallOk.intro 62 Tryd.func30 rfl Tryd.ntmps30 (Nat.le_of_ble_eq_true rfl) ?_
  intro c a w hG hn h
  unfold ref05_Opened at hF
  change SatL c [.slot 0 (eqVP p_0), .slot 1 (aggVP [bytesCk 32 a_1]), .slot 2 (slVP (dC 32) a_2), .slot 3 (slVP (dC 32) a_3), .res (RLog_e p_0 L_0)] a w at h
  refine wp_seq ?_
  refine region_do (n := 62) [.slot 5 0 100000 (fun v1_ _ => (lpVP v1_ 0)),
      .res 0 100000 (fun v1_ _ => (lb (v1_) 24 [bytesCk 32 a_1])),
      .slot 8 1 100000 (fun v1_ _ => (lpVP v1_ 0)),
      .res 1 100000 (fun v1_ _ => (lb (v1_) 24 [bytesCk 32 (List.replicate 32 0)])),
      .slot 9 100000 100000 (fun _ _ => (boolVP false))] [0, 0, 1, 1, 2] [⟨[1], [], [5, 6], [], some 5⟩, ⟨[], [], [7, 8], [0], some 8⟩, ⟨[], [], [9], [0, 1], some 9⟩] [0, 2, 3, 5, 7, 4, 6, 8] mixed hn hG h (by kernel_rfl) ?_ ?_
  · exact ⟨⟨rfl, fun β => (GOk.plain (op_box (opt 0 rfl) (cells_agg _)) rfl)⟩, ⟨rfl, fun β => (GOk.plain (op_alloc Tryd.zeroValue24 z24) rfl)⟩, ⟨rfl, fun β => (GOk.plain (op_assign (opc (bc _))) rfl)⟩, trivial⟩
  clear h
  intro β a w h
  change SatL c [.slot 0 (eqVP p_0), .slot 2 (slVP (dC 32) a_2), .slot 3 (slVP (dC 32) a_3), .slot 5 (lpVP (β 0) 0), .slot 8 (lpVP (β 1) 0), .res (RLog_e p_0 L_0), .res (lb (β 0) 24 [bytesCk 32 a_1]), .res (lb (β 1) 24 [bytesCk 32 (List.replicate 32 0)])] a w at h
  generalize β 0 = p1 at h
  generalize β 1 = p2 at h
  clear β
  show Code.wp Tryd.prog _ _ a w
  refine wp_seq ?_
  refine wp_seq ?_
  refine wp_cut (fun a w => ∃ (x3 : Bool), ref05_Opened.j1 L_0 a_1 a_2 a_3 x3 = some r ∧ SatL c [.slot 0 (eqVP p_0), .slot 2 (slVP (dC 32) a_2), .slot 3 (slVP (dC 32) a_3), .slot 5 (lpVP p1 0), .slot 8 (lpVP p2 0), .slot 20 (boolVP x3), .res (RLog_e p_0 L_0), .res (lb p1 24 [bytesCk 32 a_1]), .res (lb p2 24 [bytesCk 32 (List.replicate 32 0)])] a w) ?_ ?_
  · rcases Bool.eq_false_or_eq_true (!decide ((a_2.length : Int) = (32 : Int))) with hb113 | hb113
    · replace hF := tt_of hb113 hF
      refine region_do (n := 62) [.slot 13 100000 100000 (fun _ _ => (slVP (dC 32) a_2)),
      .slot 14 100000 100000 (fun _ _ => (intVP .i64 (a_2.length : Int))),
      .slot 15 100000 100000 (fun _ _ => (boolVP (!decide ((a_2.length : Int) = (32 : Int))))),
      .slot 16 100000 100000 (fun _ _ => (boolVP (!decide ((a_2.length : Int) = (32 : Int))))),
      .slot 17 100000 100000 (fun _ _ => (eqVP undef)),
      .slot 18 100000 100000 (fun _ _ => (eqVP undef)),
      .slot 19 100000 100000 (fun _ _ => (eqVP undef)),
      .slot 20 100000 100000 (fun _ _ => (boolVP true))] [0, 1, 2, 3, 4, 5, 6, 7] [⟨[1], [], [8], [], some 13⟩, ⟨[8], [], [9], [0], some 14⟩, ⟨[9], [], [10], [0, 1], some 15⟩, ⟨[10], [], [11], [0, 1, 2], some 16⟩, ⟨[11], [], [12], [0, 1, 2, 3], some 17⟩, ⟨[11], [], [13], [0, 1, 2, 3, 4], some 18⟩, ⟨[11], [], [14], [0, 1, 2, 3, 4, 5], some 19⟩, ⟨[11], [], [15], [0, 1, 2, 3, 4, 5, 6], some 20⟩] [0, 1, 2, 3, 4, 15, 5, 6, 7] mixed hn hG h (by kernel_rfl) ?_ ?_
      · exact ⟨⟨rfl, fun β => (GOk.plain (op_move (opt 0 rfl)) rfl)⟩, ⟨rfl, fun β => (GOk.plain (op_len_sl Tryd.underlying46 (opt 0 rfl)) rfl)⟩, ⟨rfl, fun β => (GOk.plain (op_bin bin_neq (opt 0 rfl) (opc (ic (by decide)))) rfl)⟩, ⟨rfl, fun β => (GOk.plain (op_move (opt 0 rfl)) rfl)⟩, ⟨rfl, fun β => (GOk.off_v (want := false) hb113 rfl rfl rfl rfl)⟩, ⟨rfl, fun β => (GOk.off_v (want := false) hb113 rfl rfl rfl rfl)⟩, ⟨rfl, fun β => (GOk.off_v (want := false) hb113 rfl rfl rfl rfl)⟩, ⟨rfl, fun β => (GOk.plain (op_pick_t hb113 (opt 0 rfl) (opc (bc _))) rfl)⟩, trivial⟩
      clear h
      intro β a w h
      change SatL c [.slot 0 (eqVP p_0), .slot 2 (slVP (dC 32) a_2), .slot 3 (slVP (dC 32) a_3), .slot 5 (lpVP p1 0), .slot 8 (lpVP p2 0), .slot 20 (boolVP true), .res (RLog_e p_0 L_0), .res (lb p1 24 [bytesCk 32 a_1]), .res (lb p2 24 [bytesCk 32 (List.replicate 32 0)])] a w at h
      clear β
      exact ⟨true, hF, h.sub [0, 1, 2, 3, 4, 5, 6, 7, 8] (by rfl)⟩
    · replace hF := ff_of hb113 hF
      refine region_do (n := 62) [.slot 13 100000 100000 (fun _ _ => (slVP (dC 32) a_2)),
      .slot 14 100000 100000 (fun _ _ => (intVP .i64 (a_2.length : Int))),
      .slot 15 100000 100000 (fun _ _ => (boolVP (!decide ((a_2.length : Int) = (32 : Int))))),
      .slot 16 100000 100000 (fun _ _ => (boolVP (!decide ((a_2.length : Int) = (32 : Int))))),
      .slot 17 100000 100000 (fun _ _ => (slVP (dC 32) a_3)),
      .slot 18 100000 100000 (fun _ _ => (intVP .i64 (a_3.length : Int))),
      .slot 19 100000 100000 (fun _ _ => (boolVP (!decide ((a_3.length : Int) = (32 : Int))))),
      .slot 20 100000 100000 (fun _ _ => (boolVP (!decide ((a_3.length : Int) = (32 : Int)))))] [0, 1, 2, 3, 4, 5, 6, 7] [⟨[1], [], [8], [], some 13⟩, ⟨[8], [], [9], [0], some 14⟩, ⟨[9], [], [10], [0, 1], some 15⟩, ⟨[10], [], [11], [0, 1, 2], some 16⟩, ⟨[11, 2], [], [12], [0, 1, 2, 3], some 17⟩, ⟨[11, 12], [], [13], [0, 1, 2, 3, 4], some 18⟩, ⟨[11, 13], [], [14], [0, 1, 2, 3, 4, 5], some 19⟩, ⟨[11, 14], [], [15], [0, 1, 2, 3, 4, 5, 6], some 20⟩] [0, 1, 2, 3, 4, 15, 5, 6, 7] mixed hn hG h (by kernel_rfl) ?_ ?_
      · exact ⟨⟨rfl, fun β => (GOk.plain (op_move (opt 0 rfl)) rfl)⟩, ⟨rfl, fun β => (GOk.plain (op_len_sl Tryd.underlying46 (opt 0 rfl)) rfl)⟩, ⟨rfl, fun β => (GOk.plain (op_bin bin_neq (opt 0 rfl) (opc (ic (by decide)))) rfl)⟩, ⟨rfl, fun β => (GOk.plain (op_move (opt 0 rfl)) rfl)⟩, ⟨rfl, fun β => (GOk.on_eq hb113 rfl rfl rfl (op_move (opt 0 rfl)))⟩, ⟨rfl, fun β => (GOk.on_eq hb113 rfl rfl rfl (op_len_sl Tryd.underlying46 (opt 0 rfl)))⟩, ⟨rfl, fun β => (GOk.on_eq hb113 rfl rfl rfl (op_bin bin_neq (opt 0 rfl) (opc (ic (by decide)))))⟩, ⟨rfl, fun β => (GOk.plain (op_pick_f hb113 (opt 0 rfl) (opt 1 rfl)) rfl)⟩, trivial⟩
      clear h
      intro β a w h
      change SatL c [.slot 0 (eqVP p_0), .slot 2 (slVP (dC 32) a_2), .slot 3 (slVP (dC 32) a_3), .slot 5 (lpVP p1 0), .slot 8 (lpVP p2 0), .slot 20 (boolVP (!decide ((a_3.length : Int) = (32 : Int)))), .res (RLog_e p_0 L_0), .res (lb p1 24 [bytesCk 32 a_1]), .res (lb p2 24 [bytesCk 32 (List.replicate 32 0)])] a w at h
      clear β
      exact ⟨!decide ((a_3.length : Int) = (32 : Int)), hF, h.sub [0, 1, 2, 3, 4, 5, 6, 7, 8] (by rfl)⟩
  · clear h hF
    rintro a w ⟨x3, hF, h⟩
    unfold ref05_Opened.j1 at hF
    show Code.wp Tryd.prog _ _ a w
    refine cond_L h 5 rfl (fun hb4 => ?_) (fun hb4 => ?_)
    · replace hF := tt_of hb4 hF
      replace h := h.sub [4, 6, 8] (by rfl)
      change SatL c [.slot 8 (lpVP p2 0), .res (RLog_e p_0 L_0), .res (lb p2 24 [bytesCk 32 (List.replicate 32 0)])] a w at h
      refine wp_seq ?_
      refine region_do (n := 62) [.slot 21 100000 100000 (fun _ _ => (aggVP [bytesCk 32 (List.replicate 32 0)])),
      .res 100000 100000 (fun _ _ => (lb p2 24 [bytesCk 32 (List.replicate 32 0)])),
      .slot 9 100000 100000 (fun _ _ => (boolVP false))] [0, 1, 2] [⟨[], [], [3], [], some 21⟩, ⟨[0, 3], [2], [4], [0], none⟩, ⟨[], [], [5], [0, 1], some 9⟩] [0, 5, 1, 4] mixed hn hG h (by kernel_rfl) ?_ ?_
      · exact ⟨⟨rfl, fun β => (GOk.plain (build0 Tryd.zeroValue24 Tryd.underlying24 Tryd.sizeOf5 z24) rfl)⟩, ⟨rfl, fun β => (GOk.plain (op_store_lb [] [bytesCk 32 (List.replicate 32 0)] [] [bytesCk 32 (List.replicate 32 0)] Tryd.sizeOf24 (opt 0 rfl) (opt 1 rfl) (cells_agg _) rfl rfl rfl) rfl)⟩, ⟨rfl, fun β => (GOk.plain (op_assign (opc (bc _))) rfl)⟩, trivial⟩
      clear h
      intro β a w h
      change SatL c [.slot 8 (lpVP p2 0), .slot 9 (boolVP false), .res (RLog_e p_0 L_0), .res (lb p2 24 [bytesCk 32 (List.replicate 32 0)])] a w at h
      clear β
      show Code.wp Tryd.prog _ _ a w
      refine wp_ret ?_
      obtain rfl := Option.some.inj hF
      exact ⟨.inl rfl, retn h (rs := [.cell 8 24, .tmp 9]) (Vs := [(aggVP [bytesCk 32 (List.replicate 32 0)]), (boolVP false)]) Tryd.results30 (by decide) ⟨(r_cell 0 3 rfl rfl Tryd.isAgg24 Tryd.sizeOf24 rfl), (r_tmp 1 rfl), trivial⟩ [2] [(RLog_e p_0 L_0)] rfl rfl rfl⟩
    · replace hF := ff_of hb4 hF
      replace h := h.sub [0, 1, 2, 3, 4, 6, 7, 8] (by rfl)
      change SatL c [.slot 0 (eqVP p_0), .slot 2 (slVP (dC 32) a_2), .slot 3 (slVP (dC 32) a_3), .slot 5 (lpVP p1 0), .slot 8 (lpVP p2 0), .res (RLog_e p_0 L_0), .res (lb p1 24 [bytesCk 32 a_1]), .res (lb p2 24 [bytesCk 32 (List.replicate 32 0)])] a w at h
      refine wp_skip ?_
      show Code.wp Tryd.prog _ _ a w
      refine wp_seq ?_
      refine region_do (n := 62) [.slot 10 100000 100000 (fun _ _ => (eqVP (.slice none 0 0)))] [0] [⟨[], [], [8], [], some 10⟩] [0, 1, 2, 3, 4, 8, 5, 6, 7] mixed hn hG h (by kernel_rfl) ?_ ?_
      · exact ⟨⟨rfl, fun β => (GOk.plain (op_assign (opc (ec _))) rfl)⟩, trivial⟩
      clear h
      intro β a w h
      change SatL c [.slot 0 (eqVP p_0), .slot 2 (slVP (dC 32) a_2), .slot 3 (slVP (dC 32) a_3), .slot 5 (lpVP p1 0), .slot 8 (lpVP p2 0), .slot 10 (eqVP (.slice none 0 0)), .res (RLog_e p_0 L_0), .res (lb p1 24 [bytesCk 32 a_1]), .res (lb p2 24 [bytesCk 32 (List.replicate 32 0)])] a w at h
      clear β
      show Code.wp Tryd.prog _ _ a w
      refine wp_seq ?_
      refine wp_seq ?_
      refine region_do (n := 62) [.slot 11 100000 100000 (fun _ _ => (intVP .i64 0))] [0] [⟨[], [], [9], [], some 11⟩] [0, 1, 2, 3, 4, 5, 9, 6, 7, 8] mixed hn hG h (by kernel_rfl) ?_ ?_
      · exact ⟨⟨rfl, fun β => (GOk.plain (op_assign (opc (ic (by decide)))) rfl)⟩, trivial⟩
      clear h
      intro β a w h
      change SatL c [.slot 0 (eqVP p_0), .slot 2 (slVP (dC 32) a_2), .slot 3 (slVP (dC 32) a_3), .slot 5 (lpVP p1 0), .slot 8 (lpVP p2 0), .slot 10 (eqVP (.slice none 0 0)), .slot 11 (intVP .i64 0), .res (RLog_e p_0 L_0), .res (lb p1 24 [bytesCk 32 a_1]), .res (lb p2 24 [bytesCk 32 (List.replicate 32 0)])] a w at h
      clear β
      show Code.wp Tryd.prog _ _ a w
      refine wp_block ?_
      obtain ⟨q26, h⟩ : ∃ q26 : Value, SatL c [.slot 0 (eqVP p_0), .slot 2 (slVP (dC 32) a_2), .slot 3 (slVP (dC 32) a_3), .slot 5 (lpVP p1 0), .slot 8 (lpVP p2 0), .slot 10 (eqVP q26), .slot 11 (intVP .i64 0), .res (RLog_e p_0 L_0), .res (lb p1 24 [bytesCk 32 a_1]), .res (lb p2 24 [bytesCk 32 (List.replicate 32 0)]), .res (acc q26 5 1 bC [])] a w := ⟨.slice none 0 0, (h.nilacc 5 1 bC).sub [0, 1, 2, 3, 4, 5, 6, 7, 8, 9, 10] (by rfl)⟩
      obtain ⟨cr105, hl106, hF⟩ := bind_some hF
      refine wp_mono (wp_loopN (R := (List UInt8) × Bool × (Option O_RLog)) (S := Int × (Option O_RLog) × (List (UInt8))) (fun s a w => ∃ q49 : Value, SatL c [.slot 0 (eqVP p_0), .slot 2 (slVP (dC 32) a_2), .slot 3 (slVP (dC 32) a_3), .slot 5 (lpVP p1 0), .slot 8 (lpVP p2 0), .slot 10 (eqVP q49), .slot 11 (intVP .i64 s.1), .res (RLog_e p_0 s.2.1), .res (lb p1 24 [bytesCk 32 a_1]), .res (lb p2 24 [bytesCk 32 (List.replicate 32 0)]), .res (acc q49 5 1 bC s.2.2)] a w) (fun res e a w => match res with | .next s => e = .exit 0 ∧ ∃ q49 : Value, SatL c [.slot 0 (eqVP p_0), .slot 8 (lpVP p2 0), .slot 10 (eqVP q49), .res (RLog_e p_0 s.2.1), .res (lb p2 24 [bytesCk 32 (List.replicate 32 0)]), .res (acc q49 5 1 bC s.2.2)] a w | .ret r => e = .ret ∧ RetOk Tryd.prog Tryd.f30 c (tupVP [(aggVP [bytesCk 32 r.1]), (boolVP r.2.1)]) (fun _ => [RLog_e p_0 r.2.2]) a w) ?_ _ (0, L_0, []) _ _ _ ⟨q26, (h.sub [0, 1, 2, 3, 4, 5, 6, 7, 8, 9, 10] (by rfl))⟩ hl106) ?_
      · clear hl106 hF h
        intro s a w o h hF
        obtain ⟨x46, x47, x48⟩ := s
        obtain ⟨q49, h⟩ := h
        change ref05_Opened.b1 a_1 a_2 a_3 x46 x47 x48 = some o at hF
        unfold ref05_Opened.b1 at hF
        change SatL c [.slot 0 (eqVP p_0), .slot 2 (slVP (dC 32) a_2), .slot 3 (slVP (dC 32) a_3), .slot 5 (lpVP p1 0), .slot 8 (lpVP p2 0), .slot 10 (eqVP q49), .slot 11 (intVP .i64 x46), .res (RLog_e p_0 x47), .res (lb p1 24 [bytesCk 32 a_1]), .res (lb p2 24 [bytesCk 32 (List.replicate 32 0)]), .res (acc q49 5 1 bC x48)] a w at h
        refine wp_seq ?_
        refine wp_seq ?_
        refine region_do (n := 62) [.slot 22 100000 100000 (fun _ _ => (intVP .i64 x46)),
      .slot 23 100000 100000 (fun _ _ => (boolVP (decide (x46 < (32 : Int)))))] [0, 1] [⟨[6], [], [11], [], some 22⟩, ⟨[11], [], [12], [0], some 23⟩] [0, 1, 2, 3, 4, 5, 6, 12, 7, 8, 9, 10] mixed hn hG h (by kernel_rfl) ?_ ?_
        · exact ⟨⟨rfl, fun β => (GOk.plain (op_move (opt 0 rfl)) rfl)⟩, ⟨rfl, fun β => (GOk.plain (op_bin bin_lss (opt 0 rfl) (opc (ic (by decide)))) rfl)⟩, trivial⟩
        clear h
        intro β a w h
        change SatL c [.slot 0 (eqVP p_0), .slot 2 (slVP (dC 32) a_2), .slot 3 (slVP (dC 32) a_3), .slot 5 (lpVP p1 0), .slot 8 (lpVP p2 0), .slot 10 (eqVP q49), .slot 11 (intVP .i64 x46), .slot 23 (boolVP (decide (x46 < (32 : Int)))), .res (RLog_e p_0 x47), .res (lb p1 24 [bytesCk 32 a_1]), .res (lb p2 24 [bytesCk 32 (List.replicate 32 0)]), .res (acc q49 5 1 bC x48)] a w at h
        clear β
        show Code.wp Tryd.prog _ _ a w
        refine cond_L h 7 rfl (fun hb73 => ?_) (fun hb73 => ?_)
        · replace hF := tt_of hb73 hF
          replace h := h.sub [0, 1, 2, 3, 4, 5, 6, 8, 9, 10, 11] (by rfl)
          change SatL c [.slot 0 (eqVP p_0), .slot 2 (slVP (dC 32) a_2), .slot 3 (slVP (dC 32) a_3), .slot 5 (lpVP p1 0), .slot 8 (lpVP p2 0), .slot 10 (eqVP q49), .slot 11 (intVP .i64 x46), .res (RLog_e p_0 x47), .res (lb p1 24 [bytesCk 32 a_1]), .res (lb p2 24 [bytesCk 32 (List.replicate 32 0)]), .res (acc q49 5 1 bC x48)] a w at h
          refine wp_skip ?_
          show Code.wp Tryd.prog _ _ a w
          refine wp_seq ?_
          refine wp_block ?_
          refine wp_seq ?_
          obtain ⟨hv74, hF⟩ := ite_some hF
          obtain ⟨r75, hr75, hF⟩ := bind_some hF
          obtain ⟨r76, hr76, hF⟩ := bind_some hF
          refine region_do (n := 62) [.slot 26 100000 100000 (fun _ _ => (eqVP p_0)),
      .slot 27 100000 100000 (fun _ _ => (slVP (dC 32) a_2)),
      .slot 28 100000 100000 (fun _ _ => (intVP .i64 x46)),
      .slot 29 100000 100000 (fun _ _ => (ppVP [bytesCk 32 (a_2.getD x46.toNat default)])),
      .slot 30 100000 100000 (fun _ _ => (aggVP [bytesCk 32 (a_2.getD x46.toNat default)])),
      .slot 31 100000 100000 (fun _ _ => (aggVP [bytesCk 32 r75.1])),
      .res 100000 100000 (fun _ _ => (RLog_e p_0 r75.2)),
      .slot 32 100000 100000 (fun _ _ => (strVP r76)),
      .slot 12 100000 100000 (fun _ _ => (strVP r76))] [0, 1, 2, 3, 4, 5, 5, 6, 7] [⟨[0], [], [11], [], some 26⟩, ⟨[1], [], [12], [0], some 27⟩, ⟨[6], [], [13], [0, 1], some 28⟩, ⟨[12, 13], [], [14], [0, 1, 2], some 29⟩, ⟨[14], [], [15], [0, 1, 2, 3], some 30⟩, ⟨[11, 15], [7], [16, 17], [0, 1, 2, 3, 4], some 31⟩, ⟨[16], [], [18], [0, 1, 2, 3, 4, 5], some 32⟩, ⟨[18], [], [19], [0, 1, 2, 3, 4, 5, 6], some 12⟩] [0, 1, 2, 3, 4, 5, 6, 19, 8, 9, 10, 17] mixed hn hG h (by kernel_rfl) ?_ ?_
          · exact ⟨⟨rfl, fun β => (GOk.plain (op_move (opt 0 rfl)) rfl)⟩, ⟨rfl, fun β => (GOk.plain (op_move (opt 0 rfl)) rfl)⟩, ⟨rfl, fun β => (GOk.plain (op_move (opt 0 rfl)) rfl)⟩, ⟨rfl, fun β => (GOk.plain (op_indexAddr_sl Tryd.underlying46 Tryd.sizeOf24 (lens_dC 32) (opt 0 rfl) (opt 1 rfl) hv74) rfl)⟩, ⟨rfl, fun β => (GOk.plain (op_load_pp [bytesCk 32 (a_2.getD x46.toNat default)] [] Tryd.isAgg24 Tryd.sizeOf24 (opt 0 rfl) rfl) rfl)⟩, ⟨rfl, fun β => (GOk.plain (op_call Tryd.call35 (ref05_Public_ok hr75) ⟨(opt 0 rfl), (opt 1 rfl), trivial⟩) rfl)⟩, ⟨rfl, fun β => (GOk.plain (op_call Tryd.call42 (ref03_Bytes_ok hr76) ⟨(opt 0 rfl), trivial⟩) rfl)⟩, ⟨rfl, fun β => (GOk.plain (op_assign (opt 0 rfl)) rfl)⟩, trivial⟩
          clear h
          intro β a w h
          change SatL c [.slot 0 (eqVP p_0), .slot 2 (slVP (dC 32) a_2), .slot 3 (slVP (dC 32) a_3), .slot 5 (lpVP p1 0), .slot 8 (lpVP p2 0), .slot 10 (eqVP q49), .slot 11 (intVP .i64 x46), .slot 12 (strVP r76), .res (lb p1 24 [bytesCk 32 a_1]), .res (lb p2 24 [bytesCk 32 (List.replicate 32 0)]), .res (acc q49 5 1 bC x48), .res (RLog_e p_0 r75.2)] a w at h
          clear β
          show Code.wp Tryd.prog _ _ a w
          refine wp_seq ?_
          obtain ⟨r77, hr77, hF⟩ := bind_some hF
          refine region_do (n := 62) [.slot 33 100000 100000 (fun _ _ => (aggVP [bytesCk 32 a_1])),
      .slot 34 100000 100000 (fun _ _ => (intVP .i64 x46)),
      .slot 35 100000 100000 (fun _ _ => (intVP .i64 r77)),
      .slot 36 100000 100000 (fun _ _ => (boolVP (decide (r77 = (0 : Int)))))] [0, 1, 2, 3] [⟨[3, 8], [], [12], [], some 33⟩, ⟨[6], [], [13], [0], some 34⟩, ⟨[12, 13], [], [14], [0, 1], some 35⟩, ⟨[14], [], [15], [0, 1, 2], some 36⟩] [0, 1, 2, 3, 4, 5, 6, 7, 15, 8, 9, 10, 11] mixed hn hG h (by kernel_rfl) ?_ ?_
          · exact ⟨⟨rfl, fun β => (GOk.plain (op_load_lb [] [bytesCk 32 a_1] [] 1 Tryd.isAgg24 Tryd.sizeOf24 (opt 0 rfl) rfl rfl rfl) rfl)⟩, ⟨rfl, fun β => (GOk.plain (op_move (opt 0 rfl)) rfl)⟩, ⟨rfl, fun β => (GOk.plain (op_call Tryd.call33 (ref05_Bit_ok hr77) ⟨(opt 0 rfl), (opt 1 rfl), trivial⟩) rfl)⟩, ⟨rfl, fun β => (GOk.plain (op_bin bin_eql (opt 0 rfl) (opc (ic (by decide)))) rfl)⟩, trivial⟩
          clear h
          intro β a w h
          change SatL c [.slot 0 (eqVP p_0), .slot 2 (slVP (dC 32) a_2), .slot 3 (slVP (dC 32) a_3), .slot 5 (lpVP p1 0), .slot 8 (lpVP p2 0), .slot 10 (eqVP q49), .slot 11 (intVP .i64 x46), .slot 12 (strVP r76), .slot 36 (boolVP (decide (r77 = (0 : Int)))), .res (lb p1 24 [bytesCk 32 a_1]), .res (lb p2 24 [bytesCk 32 (List.replicate 32 0)]), .res (acc q49 5 1 bC x48), .res (RLog_e p_0 r75.2)] a w at h
          clear β
          show Code.wp Tryd.prog _ _ a w
          refine wp_cut (fun a w => ∃ (x90 : List (UInt8)), ∃ q91 : Value, ref05_Opened.j2 x46 r75 x90 = some o ∧ SatL c [.slot 0 (eqVP p_0), .slot 2 (slVP (dC 32) a_2), .slot 3 (slVP (dC 32) a_3), .slot 5 (lpVP p1 0), .slot 8 (lpVP p2 0), .slot 10 (eqVP q91), .slot 11 (intVP .i64 x46), .res (lb p1 24 [bytesCk 32 a_1]), .res (lb p2 24 [bytesCk 32 (List.replicate 32 0)]), .res (RLog_e p_0 r75.2), .res (acc q91 5 1 bC x90)] a w) ?_ ?_
          · refine cond_L h 8 rfl (fun hb92 => ?_) (fun hb92 => ?_)
            · replace hF := tt_of hb92 hF
              replace h := h.sub [0, 1, 2, 3, 4, 5, 6, 7, 9, 10, 11, 12] (by rfl)
              change SatL c [.slot 0 (eqVP p_0), .slot 2 (slVP (dC 32) a_2), .slot 3 (slVP (dC 32) a_3), .slot 5 (lpVP p1 0), .slot 8 (lpVP p2 0), .slot 10 (eqVP q49), .slot 11 (intVP .i64 x46), .slot 12 (strVP r76), .res (lb p1 24 [bytesCk 32 a_1]), .res (lb p2 24 [bytesCk 32 (List.replicate 32 0)]), .res (acc q49 5 1 bC x48), .res (RLog_e p_0 r75.2)] a w at h
              refine wp_seq ?_
              obtain ⟨hv93, hF⟩ := ite_some hF
              refine region_do (n := 62) [.slot 37 100000 100000 (fun _ _ => (eqVP q49)),
      .slot 38 100000 100000 (fun _ _ => (strVP r76)),
      .slot 39 2 100000 (fun v1_ _ => (eqVP v1_)),
      .res 2 100000 (fun v1_ _ => (acc (v1_) 5 1 bC (x48 ++ r76))),
      .slot 10 2 100000 (fun v1_ _ => (eqVP v1_))] [0, 1, 2, 2, 3] [⟨[5], [], [12], [], some 37⟩, ⟨[7], [], [13], [0], some 38⟩, ⟨[12, 13], [10], [14, 15], [0, 1], some 39⟩, ⟨[14], [5], [16], [0, 1, 2], some 10⟩] [0, 1, 2, 3, 4, 16, 6, 8, 9, 11, 15] mixed hn hG h (by kernel_rfl) ?_ ?_
              · exact ⟨⟨rfl, fun β => (GOk.plain (op_move (opt 0 rfl)) rfl)⟩, ⟨rfl, fun β => (GOk.plain (op_move (opt 0 rfl)) rfl)⟩, ⟨rfl, fun β => (GOk.plain (op_append_str Tryd.underlying79 Tryd.underlying9 Tryd.type5 rfl rfl rfl rfl (opt 0 rfl) (opt 1 rfl) hv93) rfl)⟩, ⟨rfl, fun β => (GOk.drop _ (GOk.plain (op_assign (V := (eqVP (β 2))) (opt 0 rfl)) rfl))⟩, trivial⟩
              clear h
              intro β a w h
              change SatL c [.slot 0 (eqVP p_0), .slot 2 (slVP (dC 32) a_2), .slot 3 (slVP (dC 32) a_3), .slot 5 (lpVP p1 0), .slot 8 (lpVP p2 0), .slot 10 (eqVP (β 2)), .slot 11 (intVP .i64 x46), .res (lb p1 24 [bytesCk 32 a_1]), .res (lb p2 24 [bytesCk 32 (List.replicate 32 0)]), .res (RLog_e p_0 r75.2), .res (acc (β 2) 5 1 bC (x48 ++ r76))] a w at h
              generalize β 2 = p94 at h
              clear β
              show Code.wp Tryd.prog _ _ a w
              obtain ⟨hv95, hF⟩ := ite_some hF
              obtain ⟨r96, hr96, hF⟩ := bind_some hF
              obtain ⟨hv97, hF⟩ := ite_some hF
              refine region_do (n := 62) [.slot 40 100000 100000 (fun _ _ => (eqVP p94)),
      .slot 41 100000 100000 (fun _ _ => (slVP (dC 32) a_3)),
      .slot 42 100000 100000 (fun _ _ => (intVP .i64 x46)),
      .slot 43 100000 100000 (fun _ _ => (ppVP [bytesCk 32 (a_3.getD x46.toNat default)])),
      .slot 44 100000 100000 (fun _ _ => (aggVP [bytesCk 32 (a_3.getD x46.toNat default)])),
      .slot 45 100000 100000 (fun _ _ => (strVP r96)),
      .slot 46 6 100000 (fun v1_ _ => (eqVP v1_)),
      .res 6 100000 (fun v1_ _ => (acc (v1_) 5 1 bC ((x48 ++ r76) ++ r96))),
      .slot 10 6 100000 (fun v1_ _ => (eqVP v1_))] [0, 1, 2, 3, 4, 5, 6, 6, 7] [⟨[5], [], [11], [], some 40⟩, ⟨[2], [], [12], [0], some 41⟩, ⟨[6], [], [13], [0, 1], some 42⟩, ⟨[12, 13], [], [14], [0, 1, 2], some 43⟩, ⟨[14], [], [15], [0, 1, 2, 3], some 44⟩, ⟨[15], [], [16], [0, 1, 2, 3, 4], some 45⟩, ⟨[11, 16], [10], [17, 18], [0, 1, 2, 3, 4, 5], some 46⟩, ⟨[17], [5], [19], [0, 1, 2, 3, 4, 5, 6], some 10⟩] [0, 1, 2, 3, 4, 19, 6, 7, 8, 9, 18] mixed hn hG h (by kernel_rfl) ?_ ?_
              · exact ⟨⟨rfl, fun β => (GOk.plain (op_move (opt 0 rfl)) rfl)⟩, ⟨rfl, fun β => (GOk.plain (op_move (opt 0 rfl)) rfl)⟩, ⟨rfl, fun β => (GOk.plain (op_move (opt 0 rfl)) rfl)⟩, ⟨rfl, fun β => (GOk.plain (op_indexAddr_sl Tryd.underlying46 Tryd.sizeOf24 (lens_dC 32) (opt 0 rfl) (opt 1 rfl) hv95) rfl)⟩, ⟨rfl, fun β => (GOk.plain (op_load_pp [bytesCk 32 (a_3.getD x46.toNat default)] [] Tryd.isAgg24 Tryd.sizeOf24 (opt 0 rfl) rfl) rfl)⟩, ⟨rfl, fun β => (GOk.plain (op_call Tryd.call42 (ref03_Bytes_ok hr96) ⟨(opt 0 rfl), trivial⟩) rfl)⟩, ⟨rfl, fun β => (GOk.plain (op_append_str Tryd.underlying79 Tryd.underlying9 Tryd.type5 rfl rfl rfl rfl (opt 0 rfl) (opt 1 rfl) hv97) rfl)⟩, ⟨rfl, fun β => (GOk.drop _ (GOk.plain (op_assign (V := (eqVP (β 6))) (opt 0 rfl)) rfl))⟩, trivial⟩
              clear h
              intro β a w h
              change SatL c [.slot 0 (eqVP p_0), .slot 2 (slVP (dC 32) a_2), .slot 3 (slVP (dC 32) a_3), .slot 5 (lpVP p1 0), .slot 8 (lpVP p2 0), .slot 10 (eqVP (β 6)), .slot 11 (intVP .i64 x46), .res (lb p1 24 [bytesCk 32 a_1]), .res (lb p2 24 [bytesCk 32 (List.replicate 32 0)]), .res (RLog_e p_0 r75.2), .res (acc (β 6) 5 1 bC ((x48 ++ r76) ++ r96))] a w at h
              generalize β 6 = p98 at h
              clear β
              exact ⟨(x48 ++ r76) ++ r96, p98, hF, h.sub [0, 1, 2, 3, 4, 5, 6, 7, 8, 9, 10] (by rfl)⟩
            · replace hF := ff_of hb92 hF
              replace h := h.sub [0, 1, 2, 3, 4, 5, 6, 7, 9, 10, 11, 12] (by rfl)
              change SatL c [.slot 0 (eqVP p_0), .slot 2 (slVP (dC 32) a_2), .slot 3 (slVP (dC 32) a_3), .slot 5 (lpVP p1 0), .slot 8 (lpVP p2 0), .slot 10 (eqVP q49), .slot 11 (intVP .i64 x46), .slot 12 (strVP r76), .res (lb p1 24 [bytesCk 32 a_1]), .res (lb p2 24 [bytesCk 32 (List.replicate 32 0)]), .res (acc q49 5 1 bC x48), .res (RLog_e p_0 r75.2)] a w at h
              refine wp_seq ?_
              obtain ⟨hv99, hF⟩ := ite_some hF
              obtain ⟨r100, hr100, hF⟩ := bind_some hF
              obtain ⟨hv101, hF⟩ := ite_some hF
              refine region_do (n := 62) [.slot 47 100000 100000 (fun _ _ => (eqVP q49)),
      .slot 48 100000 100000 (fun _ _ => (slVP (dC 32) a_3)),
      .slot 49 100000 100000 (fun _ _ => (intVP .i64 x46)),
      .slot 50 100000 100000 (fun _ _ => (ppVP [bytesCk 32 (a_3.getD x46.toNat default)])),
      .slot 51 100000 100000 (fun _ _ => (aggVP [bytesCk 32 (a_3.getD x46.toNat default)])),
      .slot 52 100000 100000 (fun _ _ => (strVP r100)),
      .slot 53 6 100000 (fun v1_ _ => (eqVP v1_)),
      .res 6 100000 (fun v1_ _ => (acc (v1_) 5 1 bC (x48 ++ r100))),
      .slot 10 6 100000 (fun v1_ _ => (eqVP v1_))] [0, 1, 2, 3, 4, 5, 6, 6, 7] [⟨[5], [], [12], [], some 47⟩, ⟨[2], [], [13], [0], some 48⟩, ⟨[6], [], [14], [0, 1], some 49⟩, ⟨[13, 14], [], [15], [0, 1, 2], some 50⟩, ⟨[15], [], [16], [0, 1, 2, 3], some 51⟩, ⟨[16], [], [17], [0, 1, 2, 3, 4], some 52⟩, ⟨[12, 17], [10], [18, 19], [0, 1, 2, 3, 4, 5], some 53⟩, ⟨[18], [5], [20], [0, 1, 2, 3, 4, 5, 6], some 10⟩] [0, 1, 2, 3, 4, 20, 6, 7, 8, 9, 11, 19] mixed hn hG h (by kernel_rfl) ?_ ?_
              · exact ⟨⟨rfl, fun β => (GOk.plain (op_move (opt 0 rfl)) rfl)⟩, ⟨rfl, fun β => (GOk.plain (op_move (opt 0 rfl)) rfl)⟩, ⟨rfl, fun β => (GOk.plain (op_move (opt 0 rfl)) rfl)⟩, ⟨rfl, fun β => (GOk.plain (op_indexAddr_sl Tryd.underlying46 Tryd.sizeOf24 (lens_dC 32) (opt 0 rfl) (opt 1 rfl) hv99) rfl)⟩, ⟨rfl, fun β => (GOk.plain (op_load_pp [bytesCk 32 (a_3.getD x46.toNat default)] [] Tryd.isAgg24 Tryd.sizeOf24 (opt 0 rfl) rfl) rfl)⟩, ⟨rfl, fun β => (GOk.plain (op_call Tryd.call42 (ref03_Bytes_ok hr100) ⟨(opt 0 rfl), trivial⟩) rfl)⟩, ⟨rfl, fun β => (GOk.plain (op_append_str Tryd.underlying79 Tryd.underlying9 Tryd.type5 rfl rfl rfl rfl (opt 0 rfl) (opt 1 rfl) hv101) rfl)⟩, ⟨rfl, fun β => (GOk.drop _ (GOk.plain (op_assign (V := (eqVP (β 6))) (opt 0 rfl)) rfl))⟩, trivial⟩
              clear h
              intro β a w h
              change SatL c [.slot 0 (eqVP p_0), .slot 2 (slVP (dC 32) a_2), .slot 3 (slVP (dC 32) a_3), .slot 5 (lpVP p1 0), .slot 8 (lpVP p2 0), .slot 10 (eqVP (β 6)), .slot 11 (intVP .i64 x46), .slot 12 (strVP r76), .res (lb p1 24 [bytesCk 32 a_1]), .res (lb p2 24 [bytesCk 32 (List.replicate 32 0)]), .res (RLog_e p_0 r75.2), .res (acc (β 6) 5 1 bC (x48 ++ r100))] a w at h
              generalize β 6 = p102 at h
              clear β
              show Code.wp Tryd.prog _ _ a w
              obtain ⟨hv103, hF⟩ := ite_some hF
              refine region_do (n := 62) [.slot 54 100000 100000 (fun _ _ => (eqVP p102)),
      .slot 55 100000 100000 (fun _ _ => (strVP r76)),
      .slot 56 2 100000 (fun v1_ _ => (eqVP v1_)),
      .res 2 100000 (fun v1_ _ => (acc (v1_) 5 1 bC ((x48 ++ r100) ++ r76))),
      .slot 10 2 100000 (fun v1_ _ => (eqVP v1_))] [0, 1, 2, 2, 3] [⟨[5], [], [12], [], some 54⟩, ⟨[7], [], [13], [0], some 55⟩, ⟨[12, 13], [11], [14, 15], [0, 1], some 56⟩, ⟨[14], [5], [16], [0, 1, 2], some 10⟩] [0, 1, 2, 3, 4, 16, 6, 8, 9, 10, 15] mixed hn hG h (by kernel_rfl) ?_ ?_
              · exact ⟨⟨rfl, fun β => (GOk.plain (op_move (opt 0 rfl)) rfl)⟩, ⟨rfl, fun β => (GOk.plain (op_move (opt 0 rfl)) rfl)⟩, ⟨rfl, fun β => (GOk.plain (op_append_str Tryd.underlying79 Tryd.underlying9 Tryd.type5 rfl rfl rfl rfl (opt 0 rfl) (opt 1 rfl) hv103) rfl)⟩, ⟨rfl, fun β => (GOk.drop _ (GOk.plain (op_assign (V := (eqVP (β 2))) (opt 0 rfl)) rfl))⟩, trivial⟩
              clear h
              intro β a w h
              change SatL c [.slot 0 (eqVP p_0), .slot 2 (slVP (dC 32) a_2), .slot 3 (slVP (dC 32) a_3), .slot 5 (lpVP p1 0), .slot 8 (lpVP p2 0), .slot 10 (eqVP (β 2)), .slot 11 (intVP .i64 x46), .res (lb p1 24 [bytesCk 32 a_1]), .res (lb p2 24 [bytesCk 32 (List.replicate 32 0)]), .res (RLog_e p_0 r75.2), .res (acc (β 2) 5 1 bC ((x48 ++ r100) ++ r76))] a w at h
              generalize β 2 = p104 at h
              clear β
              exact ⟨(x48 ++ r100) ++ r76, p104, hF, h.sub [0, 1, 2, 3, 4, 5, 6, 7, 8, 9, 10] (by rfl)⟩
          · clear h hF
            rintro a w ⟨x90, q91, hF, h⟩
            unfold ref05_Opened.j2 at hF
            show Code.wp Tryd.prog _ _ a w
            refine region_do (n := 62) [.slot 24 100000 100000 (fun _ _ => (intVP .i64 x46)),
      .slot 25 100000 100000 (fun _ _ => (intVP .i64 (IntKind.wrap .i64 (x46 + 1)))),
      .slot 11 100000 100000 (fun _ _ => (intVP .i64 (IntKind.wrap .i64 (x46 + 1))))] [0, 1, 2] [⟨[6], [], [11], [], some 24⟩, ⟨[11], [], [12], [0], some 25⟩, ⟨[12], [6], [13], [0, 1], some 11⟩] [0, 1, 2, 3, 4, 5, 13, 7, 8, 9, 10] mixed hn hG h (by kernel_rfl) ?_ ?_
            · exact ⟨⟨rfl, fun β => (GOk.plain (op_move (opt 0 rfl)) rfl)⟩, ⟨rfl, fun β => (GOk.plain (op_bin bin_add (opt 0 rfl) (opc (ic (by decide)))) rfl)⟩, ⟨rfl, fun β => (GOk.drop _ (GOk.plain (op_assign (opt 0 rfl)) rfl))⟩, trivial⟩
            clear h
            intro β a w h
            change SatL c [.slot 0 (eqVP p_0), .slot 2 (slVP (dC 32) a_2), .slot 3 (slVP (dC 32) a_3), .slot 5 (lpVP p1 0), .slot 8 (lpVP p2 0), .slot 10 (eqVP q91), .slot 11 (intVP .i64 (IntKind.wrap .i64 (x46 + 1))), .res (lb p1 24 [bytesCk 32 a_1]), .res (lb p2 24 [bytesCk 32 (List.replicate 32 0)]), .res (RLog_e p_0 r75.2), .res (acc q91 5 1 bC x90)] a w at h
            clear β
            obtain rfl := Option.some.inj hF
            exact ⟨rfl, q91, h.sub [0, 1, 2, 3, 4, 5, 6, 9, 7, 8, 10] (by rfl)⟩
        · replace hF := ff_of hb73 hF
          replace h := h.sub [0, 1, 2, 3, 4, 5, 6, 8, 9, 10, 11] (by rfl)
          change SatL c [.slot 0 (eqVP p_0), .slot 2 (slVP (dC 32) a_2), .slot 3 (slVP (dC 32) a_3), .slot 5 (lpVP p1 0), .slot 8 (lpVP p2 0), .slot 10 (eqVP q49), .slot 11 (intVP .i64 x46), .res (RLog_e p_0 x47), .res (lb p1 24 [bytesCk 32 a_1]), .res (lb p2 24 [bytesCk 32 (List.replicate 32 0)]), .res (acc q49 5 1 bC x48)] a w at h
          refine wp_exit ?_
          obtain rfl := Option.some.inj hF
          exact ⟨exit_ne _, rfl, q49, h.sub [0, 4, 5, 7, 9, 10] (by rfl)⟩
      · clear hl106
        intro e a w hq
        cases cr105 with
        | ret r107 =>
          obtain ⟨rfl, hq⟩ := hq
          obtain rfl := Option.some.inj hF
          exact ⟨.inl rfl, hq⟩
        | next s108 =>
          obtain ⟨y109, y110, y111⟩ := s108
          obtain ⟨rfl, q49, h⟩ := hq
          change SatL c [.slot 0 (eqVP p_0), .slot 8 (lpVP p2 0), .slot 10 (eqVP q49), .res (RLog_e p_0 y110), .res (lb p2 24 [bytesCk 32 (List.replicate 32 0)]), .res (acc q49 5 1 bC y111)] a w at h
          refine inBlock_at ?_
          show Code.wp Tryd.prog _ _ a w
          refine wp_seq ?_
          obtain ⟨r112, hr112, hF⟩ := bind_some hF
          refine region_do (n := 62) [.slot 57 100000 100000 (fun _ _ => (eqVP p_0)),
      .slot 58 100000 100000 (fun _ _ => (eqVP q49)),
      .slot 59 100000 100000 (fun _ _ => (strVP y111)),
      .slot 60 100000 100000 (fun _ _ => (slVP strC [y111])),
      .slot 61 100000 100000 (fun _ _ => (aggVP [bytesCk 32 r112.1])),
      .res 100000 100000 (fun _ _ => (RLog_e p_0 r112.2)),
      .res 100000 100000 (fun _ _ => (lb p2 24 [bytesCk 32 r112.1])),
      .slot 9 100000 100000 (fun _ _ => (boolVP true))] [0, 1, 2, 3, 4, 4, 5, 6] [⟨[0], [], [6], [], some 57⟩, ⟨[2], [], [7], [0], some 58⟩, ⟨[7, 5], [], [8], [0, 1], some 59⟩, ⟨[8], [], [9], [0, 1, 2], some 60⟩, ⟨[6, 9], [3], [10, 11], [0, 1, 2, 3], some 61⟩, ⟨[1, 10], [4], [12], [0, 1, 2, 3, 4], none⟩, ⟨[], [], [13], [0, 1, 2, 3, 4, 5], some 9⟩] [1, 13, 12, 11] mixed hn hG h (by kernel_rfl) ?_ ?_
          · exact ⟨⟨rfl, fun β => (GOk.plain (op_move (opt 0 rfl)) rfl)⟩, ⟨rfl, fun β => (GOk.plain (op_move (opt 0 rfl)) rfl)⟩, ⟨rfl, fun β => (GOk.plain (op_conv_sl_str Tryd.underlying79 Tryd.underlying5 Tryd.underlying9 (opacc 0 1 rfl rfl)) rfl)⟩, ⟨rfl, fun β => (GOk.plain (op_lit (xs := [.tmp 59]) (ys := [y111]) _ rfl Tryd.underlying22 Tryd.sizeOf9 Tryd.zeroValue9 rfl rfl (by decide) (by decide) ⟨⟨_, (opt 0 rfl), (cells_one (one_str _))⟩, trivial⟩ lens_strC) rfl)⟩, ⟨rfl, fun β => (GOk.plain (op_call Tryd.call20 (ref04_Log_Of_ok hr112) ⟨(opt 0 rfl), (opc (ic (by decide))), (opt 1 rfl), trivial⟩) rfl)⟩, ⟨rfl, fun β => (GOk.plain (op_store_lb [] [bytesCk 32 (List.replicate 32 0)] [] [bytesCk 32 r112.1] Tryd.sizeOf24 (opt 0 rfl) (opt 1 rfl) (cells_agg _) rfl rfl rfl) rfl)⟩, ⟨rfl, fun β => (GOk.plain (op_assign (opc (bc _))) rfl)⟩, trivial⟩
          clear h
          intro β a w h
          change SatL c [.slot 8 (lpVP p2 0), .slot 9 (boolVP true), .res (lb p2 24 [bytesCk 32 r112.1]), .res (RLog_e p_0 r112.2)] a w at h
          clear β
          show Code.wp Tryd.prog _ _ a w
          refine wp_ret ?_
          obtain rfl := Option.some.inj hF
          exact ⟨.inl rfl, retn h (rs := [.cell 8 24, .tmp 9]) (Vs := [(aggVP [bytesCk 32 r112.1]), (boolVP true)]) Tryd.results30 (by decide) ⟨(r_cell 0 2 rfl rfl Tryd.isAgg24 Tryd.sizeOf24 rfl), (r_tmp 1 rfl), trivial⟩ [3] [(RLog_e p_0 r112.2)] rfl rfl rfl⟩

def law05_LamportTurns.b1 (a_2 : List UInt8) (a_4 : Int) (x19 : Int) (x20 : List (List UInt8)) : Option (Flow Bool (Int × (List (List UInt8)))) := (if (decide (x19 < (32 : Int))) = true then (if (0 : Int) ≤ IntKind.wrap .i64 ((IntKind.wrap .u64 a_4).tmod 32) ∧ IntKind.wrap .i64 ((IntKind.wrap .u64 a_4).tmod 32) < x20.length then (if (0 : Int) ≤ x19 ∧ x19 < 32 then some (.cont (IntKind.wrap .i64 (x19 + 1), x20.set (IntKind.wrap .i64 ((IntKind.wrap .u64 a_4).tmod 32)).toNat ((x20.getD (IntKind.wrap .i64 ((IntKind.wrap .u64 a_4).tmod 32)).toNat default).set x19.toNat (u8of (bits .xor .u8 (((x20.getD (IntKind.wrap .i64 ((IntKind.wrap .u64 a_4).tmod 32)).toNat default).getD x19.toNat 0).toNat) ((a_2.getD x19.toNat 0).toNat)))))) else none) else none) else some (.brk (x19, x20)))
def law05_LamportTurns.j1 (x40 : Bool) : Option Bool := some x40
def law05_LamportTurns.b2 (a_2 : List UInt8) (a_4 : Int) (x46 : Int) (x47 : List (List UInt8)) : Option (Flow Bool (Int × (List (List UInt8)))) := (if (decide (x46 < (32 : Int))) = true then (if (0 : Int) ≤ IntKind.wrap .i64 ((IntKind.wrap .u64 a_4).tmod 32) ∧ IntKind.wrap .i64 ((IntKind.wrap .u64 a_4).tmod 32) < x47.length then (if (0 : Int) ≤ x46 ∧ x46 < 32 then some (.cont (IntKind.wrap .i64 (x46 + 1), x47.set (IntKind.wrap .i64 ((IntKind.wrap .u64 a_4).tmod 32)).toNat ((x47.getD (IntKind.wrap .i64 ((IntKind.wrap .u64 a_4).tmod 32)).toNat default).set x46.toNat (u8of (bits .xor .u8 (((x47.getD (IntKind.wrap .i64 ((IntKind.wrap .u64 a_4).tmod 32)).toNat default).getD x46.toNat 0).toNat) ((a_2.getD x46.toNat 0).toNat)))))) else none) else none) else some (.brk (x46, x47)))
def law05_LamportTurns.j2 (x67 : Bool) : Option Bool := some x67
def law05_LamportTurns (a_0 : List UInt8) (a_1 : List UInt8) (a_2 : List UInt8) (a_3 : Int) (a_4 : Int) (a_5 : Bool) : Option Bool := ((law05_awake).bind fun r4 => (if (!r4) = true then some false else (if (decide (a_2 = (List.replicate 32 0))) = true then ((law05_awake).bind fun r7 => some r7) else ((ref04_New).bind fun r8 => ((lamport_Sign none a_0 a_3 a_1).bind fun r10 => ((ref05_Word (some r8) a_0 a_3).bind fun r12 => (if a_5 = true then ((loopN (fun s : Int × (List (List UInt8)) => law05_LamportTurns.b1 a_2 a_4 s.1 s.2) ((32 - 0 : Int).toNat + 2) (0, r10.2.1)).bind fun cr => match cr with | .ret r => some r | .next (y33, y34) => ((lamport_Opened r10.2.2 a_1 r10.1 y34).bind fun r35 => ((ref05_Opened r12.2 a_1 r10.1 y34).bind fun r37 => ((law05_awake).bind fun r38 => (if r38 = true then (if r35.2.1 = true then (if (!decide (r35.1 = r12.1)) = true then law05_LamportTurns.j1 true else ((ref04_Log_Clash r37.2.2).bind fun r39 => law05_LamportTurns.j1 r39)) else law05_LamportTurns.j1 false) else law05_LamportTurns.j1 false))))) else ((loopN (fun s : Int × (List (List UInt8)) => law05_LamportTurns.b2 a_2 a_4 s.1 s.2) ((32 - 0 : Int).toNat + 2) (0, r10.1)).bind fun cr => match cr with | .ret r => some r | .next (y60, y61) => ((lamport_Opened r10.2.2 a_1 y61 r10.2.1).bind fun r62 => ((ref05_Opened r12.2 a_1 y61 r10.2.1).bind fun r64 => ((law05_awake).bind fun r65 => (if r65 = true then (if r62.2.1 = true then (if (!decide (r62.1 = r12.1)) = true then law05_LamportTurns.j2 true else ((ref04_Log_Clash r64.2.2).bind fun r66 => law05_LamportTurns.j2 r66)) else law05_LamportTurns.j2 false) else law05_LamportTurns.j2 false))))))))))))
set_option maxHeartbeats 4000000 in
theorem law05_LamportTurns_ok {a_0 : List UInt8} {a_1 : List UInt8} {a_2 : List UInt8} {a_3 : Int} {a_4 : Int} {a_5 : Bool} {r : Bool} (hF : law05_LamportTurns a_0 a_1 a_2 a_3 a_4 a_5 = some r) : CallOk Tryd.prog KG 8 [(aggVP [bytesCk 32 a_0]), (aggVP [bytesCk 32 a_1]), (aggVP [bytesCk 32 a_2]), (intVP .i64 a_3), (intVP .i64 a_4), (boolVP a_5)] [] (fun _ => []) (boolVP r) := by
  refine CallOk.intro 88 Tryd.func8 rfl Tryd.ntmps8 (Nat.le_of_ble_eq_true rfl) ?_
  intro c a w hG hn h
  unfold law05_LamportTurns at hF
  change SatL c [.slot 0 (aggVP [bytesCk 32 a_0]), .slot 1 (aggVP [bytesCk 32 a_1]), .slot 2 (aggVP [bytesCk 32 a_2]), .slot 3 (intVP .i64 a_3), .slot 4 (intVP .i64 a_4), .slot 5 (boolVP a_5)] a w at h
  refine wp_seq ?_
  refine region_do (n := 88) [.slot 6 0 100000 (fun v1_ _ => (lpVP v1_ 0)),
      .res 0 100000 (fun v1_ _ => (lb (v1_) 24 [bytesCk 32 a_0])),
      .slot 7 1 100000 (fun v1_ _ => (lpVP v1_ 0)),
      .res 1 100000 (fun v1_ _ => (lb (v1_) 24 [bytesCk 32 a_1])),
      .slot 8 2 100000 (fun v1_ _ => (lpVP v1_ 0)),
      .res 2 100000 (fun v1_ _ => (lb (v1_) 24 [bytesCk 32 a_2])),
      .slot 12 100000 100000 (fun _ _ => (boolVP false))] [0, 0, 1, 1, 2, 2, 3] [⟨[0], [], [6, 7], [], some 6⟩, ⟨[1], [], [8, 9], [0], some 7⟩, ⟨[2], [], [10, 11], [0, 1], some 8⟩, ⟨[], [], [12], [0, 1, 2], some 12⟩] [3, 4, 5, 6, 8, 10, 7, 9, 11] mixed hn hG h (by kernel_rfl) ?_ ?_
  · exact ⟨⟨rfl, fun β => (GOk.plain (op_box (opt 0 rfl) (cells_agg _)) rfl)⟩, ⟨rfl, fun β => (GOk.plain (op_box (opt 0 rfl) (cells_agg _)) rfl)⟩, ⟨rfl, fun β => (GOk.plain (op_box (opt 0 rfl) (cells_agg _)) rfl)⟩, ⟨rfl, fun β => (GOk.plain (op_assign (opc (bc _))) rfl)⟩, trivial⟩
  clear h
  intro β a w h
  change SatL c [.slot 3 (intVP .i64 a_3), .slot 4 (intVP .i64 a_4), .slot 5 (boolVP a_5), .slot 6 (lpVP (β 0) 0), .slot 7 (lpVP (β 1) 0), .slot 8 (lpVP (β 2) 0), .res (lb (β 0) 24 [bytesCk 32 a_0]), .res (lb (β 1) 24 [bytesCk 32 a_1]), .res (lb (β 2) 24 [bytesCk 32 a_2])] a w at h
  generalize β 0 = p1 at h
  generalize β 1 = p2 at h
  generalize β 2 = p3 at h
  clear β
  show Code.wp Tryd.prog _ _ a w
  refine wp_seq ?_
  refine wp_seq ?_
  obtain ⟨r4, hr4, hF⟩ := bind_some hF
  refine region_do (n := 88) [.slot 22 100000 100000 (fun _ _ => (boolVP r4)),
      .slot 23 100000 100000 (fun _ _ => (boolVP (!r4)))] [0, 1] [⟨[], [], [9], [], some 22⟩, ⟨[9], [], [10], [0], some 23⟩] [0, 1, 2, 3, 4, 5, 10, 6, 7, 8] mixed hn hG h (by kernel_rfl) ?_ ?_
  · exact ⟨⟨rfl, fun β => (GOk.plain (op_call Tryd.call24 (law05_awake_ok hr4) trivial) rfl)⟩, ⟨rfl, fun β => (GOk.plain (op_un (un_not _) (opt 0 rfl)) rfl)⟩, trivial⟩
  clear h
  intro β a w h
  change SatL c [.slot 3 (intVP .i64 a_3), .slot 4 (intVP .i64 a_4), .slot 5 (boolVP a_5), .slot 6 (lpVP p1 0), .slot 7 (lpVP p2 0), .slot 8 (lpVP p3 0), .slot 23 (boolVP (!r4)), .res (lb p1 24 [bytesCk 32 a_0]), .res (lb p2 24 [bytesCk 32 a_1]), .res (lb p3 24 [bytesCk 32 a_2])] a w at h
  clear β
  show Code.wp Tryd.prog _ _ a w
  refine cond_L h 6 rfl (fun hb5 => ?_) (fun hb5 => ?_)
  · replace hF := tt_of hb5 hF
    replace h := h.sub [] (by rfl)
    change SatL c [] a w at h
    refine wp_seq ?_
    refine region_do (n := 88) [.slot 12 100000 100000 (fun _ _ => (boolVP false))] [0] [⟨[], [], [0], [], some 12⟩] [0] mixed hn hG h (by kernel_rfl) ?_ ?_
    · exact ⟨⟨rfl, fun β => (GOk.plain (op_assign (opc (bc _))) rfl)⟩, trivial⟩
    clear h
    intro β a w h
    change SatL c [.slot 12 (boolVP false)] a w at h
    clear β
    show Code.wp Tryd.prog _ _ a w
    refine wp_ret ?_
    obtain rfl := Option.some.inj hF
    exact ⟨.inl rfl, ret1 h Tryd.results8 (r_tmp 0 rfl) [] [] rfl rfl rfl⟩
  · replace hF := ff_of hb5 hF
    replace h := h.sub [0, 1, 2, 3, 4, 5, 7, 8, 9] (by rfl)
    change SatL c [.slot 3 (intVP .i64 a_3), .slot 4 (intVP .i64 a_4), .slot 5 (boolVP a_5), .slot 6 (lpVP p1 0), .slot 7 (lpVP p2 0), .slot 8 (lpVP p3 0), .res (lb p1 24 [bytesCk 32 a_0]), .res (lb p2 24 [bytesCk 32 a_1]), .res (lb p3 24 [bytesCk 32 a_2])] a w at h
    refine wp_skip ?_
    show Code.wp Tryd.prog _ _ a w
    refine wp_seq ?_
    refine wp_seq ?_
    refine region_do (n := 88) [.slot 24 100000 100000 (fun _ _ => (aggVP [bytesCk 32 a_2])),
      .slot 25 100000 100000 (fun _ _ => (aggVP [bytesCk 32 (List.replicate 32 0)])),
      .slot 26 100000 100000 (fun _ _ => (boolVP (decide (a_2 = (List.replicate 32 0)))))] [0, 1, 2] [⟨[5, 8], [], [9], [], some 24⟩, ⟨[], [], [10], [0], some 25⟩, ⟨[9, 10], [], [11], [0, 1], some 26⟩] [0, 1, 2, 3, 4, 5, 11, 6, 7, 8] mixed hn hG h (by kernel_rfl) ?_ ?_
    · exact ⟨⟨rfl, fun β => (GOk.plain (op_load_lb [] [bytesCk 32 a_2] [] 1 Tryd.isAgg24 Tryd.sizeOf24 (opt 0 rfl) rfl rfl rfl) rfl)⟩, ⟨rfl, fun β => (GOk.plain (build0 Tryd.zeroValue24 Tryd.underlying24 Tryd.sizeOf5 z24) rfl)⟩, ⟨rfl, fun β => (GOk.plain (op_bin (bin_aeql Tryd.underlying24 Tryd.underlying5 Tryd.type5 Tryd.sizeOf5 Tryd.isAgg5 Tryd.eqGuardType24) (opt 0 rfl) (opt 1 rfl)) rfl)⟩, trivial⟩
    clear h
    intro β a w h
    change SatL c [.slot 3 (intVP .i64 a_3), .slot 4 (intVP .i64 a_4), .slot 5 (boolVP a_5), .slot 6 (lpVP p1 0), .slot 7 (lpVP p2 0), .slot 8 (lpVP p3 0), .slot 26 (boolVP (decide (a_2 = (List.replicate 32 0)))), .res (lb p1 24 [bytesCk 32 a_0]), .res (lb p2 24 [bytesCk 32 a_1]), .res (lb p3 24 [bytesCk 32 a_2])] a w at h
    clear β
    show Code.wp Tryd.prog _ _ a w
    refine cond_L h 6 rfl (fun hb6 => ?_) (fun hb6 => ?_)
    · replace hF := tt_of hb6 hF
      replace h := h.sub [] (by rfl)
      change SatL c [] a w at h
      refine wp_seq ?_
      obtain ⟨r7, hr7, hF⟩ := bind_some hF
      refine region_do (n := 88) [.slot 27 100000 100000 (fun _ _ => (boolVP r7)),
      .slot 12 100000 100000 (fun _ _ => (boolVP r7))] [0, 1] [⟨[], [], [0], [], some 27⟩, ⟨[0], [], [1], [0], some 12⟩] [1] mixed hn hG h (by kernel_rfl) ?_ ?_
      · exact ⟨⟨rfl, fun β => (GOk.plain (op_call Tryd.call24 (law05_awake_ok hr7) trivial) rfl)⟩, ⟨rfl, fun β => (GOk.plain (op_assign (opt 0 rfl)) rfl)⟩, trivial⟩
      clear h
      intro β a w h
      change SatL c [.slot 12 (boolVP r7)] a w at h
      clear β
      show Code.wp Tryd.prog _ _ a w
      refine wp_ret ?_
      obtain rfl := Option.some.inj hF
      exact ⟨.inl rfl, ret1 h Tryd.results8 (r_tmp 0 rfl) [] [] rfl rfl rfl⟩
    · replace hF := ff_of hb6 hF
      replace h := h.sub [0, 1, 2, 3, 4, 5, 7, 8, 9] (by rfl)
      change SatL c [.slot 3 (intVP .i64 a_3), .slot 4 (intVP .i64 a_4), .slot 5 (boolVP a_5), .slot 6 (lpVP p1 0), .slot 7 (lpVP p2 0), .slot 8 (lpVP p3 0), .res (lb p1 24 [bytesCk 32 a_0]), .res (lb p2 24 [bytesCk 32 a_1]), .res (lb p3 24 [bytesCk 32 a_2])] a w at h
      refine wp_skip ?_
      show Code.wp Tryd.prog _ _ a w
      refine wp_seq ?_
      obtain ⟨r8, hr8, hF⟩ := bind_some hF
      refine region_do (n := 88) [.slot 28 0 100000 (fun v1_ _ => (eqVP v1_)),
      .res 0 100000 (fun v1_ _ => (RLog_e (v1_) (some r8))),
      .slot 13 0 100000 (fun v1_ _ => (eqVP v1_))] [0, 0, 1] [⟨[], [], [9, 10], [], some 28⟩, ⟨[9], [], [11], [0], some 13⟩] [0, 1, 2, 3, 4, 5, 11, 6, 7, 8, 10] mixed hn hG h (by kernel_rfl) ?_ ?_
      · exact ⟨⟨rfl, fun β => (GOk.plain (op_callv Tryd.call17 (ref04_New_ok hr8) trivial) rfl)⟩, ⟨rfl, fun β => (GOk.plain (op_assign (V := (eqVP (β 0))) (opt 0 rfl)) rfl)⟩, trivial⟩
      clear h
      intro β a w h
      change SatL c [.slot 3 (intVP .i64 a_3), .slot 4 (intVP .i64 a_4), .slot 5 (boolVP a_5), .slot 6 (lpVP p1 0), .slot 7 (lpVP p2 0), .slot 8 (lpVP p3 0), .slot 13 (eqVP (β 0)), .res (lb p1 24 [bytesCk 32 a_0]), .res (lb p2 24 [bytesCk 32 a_1]), .res (lb p3 24 [bytesCk 32 a_2]), .res (RLog_e (β 0) (some r8))] a w at h
      generalize β 0 = p9 at h
      clear β
      show Code.wp Tryd.prog _ _ a w
      refine wp_seq ?_
      replace h := h.snoc Log_nil
      replace h := h.sub [0, 1, 2, 3, 4, 5, 6, 7, 8, 9, 10, 11] (by rfl)
      change SatL c [.slot 3 (intVP .i64 a_3), .slot 4 (intVP .i64 a_4), .slot 5 (boolVP a_5), .slot 6 (lpVP p1 0), .slot 7 (lpVP p2 0), .slot 8 (lpVP p3 0), .slot 13 (eqVP p9), .res (lb p1 24 [bytesCk 32 a_0]), .res (lb p2 24 [bytesCk 32 a_1]), .res (lb p3 24 [bytesCk 32 a_2]), .res (RLog_e p9 (some r8)), .res (Log_e (.pointer none) none)] a w at h
      obtain ⟨r10, hr10, hF⟩ := bind_some hF
      refine region_do (n := 88) [.slot 30 100000 100000 (fun _ _ => (aggVP [bytesCk 32 a_0])),
      .slot 31 100000 100000 (fun _ _ => (intVP .i64 a_3)),
      .slot 32 100000 100000 (fun _ _ => (aggVP [bytesCk 32 a_1])),
      .slot 33 3 100000 (fun v1_ _ => (eqVP v1_)),
      .res 3 100000 (fun v1_ _ => (own (tupAt 0 v1_) 24 32 (dC 32) r10.1)),
      .res 3 100000 (fun v1_ _ => (own (tupAt 1 v1_) 24 32 (dC 32) r10.2.1)),
      .res 100000 100000 (fun _ _ => (Log_e (.pointer none) r10.2.2)),
      .slot 29 3 100000 (fun v1_ _ => (eqVP v1_)),
      .slot 34 3 100000 (fun v1_ _ => (eqVP (tupAt 0 v1_))),
      .slot 35 3 100000 (fun v1_ _ => (eqVP (tupAt 1 v1_))),
      .slot 14 3 100000 (fun v1_ _ => (eqVP (tupAt 0 v1_))),
      .slot 15 3 100000 (fun v1_ _ => (eqVP (tupAt 1 v1_)))] [0, 1, 2, 3, 3, 3, 3, 4, 5, 6, 7, 8] [⟨[3, 7], [], [12], [], some 30⟩, ⟨[0], [], [13], [0], some 31⟩, ⟨[4, 8], [], [14], [0, 1], some 32⟩, ⟨[12, 13, 14], [11], [15, 16, 17, 18], [0, 1, 2], some 33⟩, ⟨[15], [], [19], [0, 1, 2, 3], some 29⟩, ⟨[19, 16], [], [20], [0, 1, 2, 3, 4], some 34⟩, ⟨[19, 17], [], [21], [0, 1, 2, 3, 4, 5], some 35⟩, ⟨[20], [], [22], [0, 1, 2, 3, 4, 5, 6], some 14⟩, ⟨[21], [], [23], [0, 1, 2, 3, 4, 5, 6, 7], some 15⟩] [0, 1, 2, 3, 4, 5, 6, 22, 23, 7, 8, 9, 10, 16, 17, 18] mixed hn hG h (by kernel_rfl) ?_ ?_
      · exact ⟨⟨rfl, fun β => (GOk.plain (op_load_lb [] [bytesCk 32 a_0] [] 1 Tryd.isAgg24 Tryd.sizeOf24 (opt 0 rfl) rfl rfl rfl) rfl)⟩, ⟨rfl, fun β => (GOk.plain (op_move (opt 0 rfl)) rfl)⟩, ⟨rfl, fun β => (GOk.plain (op_load_lb [] [bytesCk 32 a_1] [] 1 Tryd.isAgg24 Tryd.sizeOf24 (opt 0 rfl) rfl rfl rfl) rfl)⟩, ⟨rfl, fun β => (GOk.plain (op_callv Tryd.call25 (lamport_Sign_ok hr10) ⟨(opc (ec _)), (opt 0 rfl), (opt 1 rfl), (opt 2 rfl), trivial⟩) rfl)⟩, ⟨rfl, fun β => (GOk.plain (op_move (V := (eqVP (β 3))) (opt 0 rfl)) rfl)⟩, ⟨rfl, fun β => (GOk.plain (op_extract_own 0 1 rfl rfl) rfl)⟩, ⟨rfl, fun β => (GOk.plain (op_extract_own 0 1 rfl rfl) rfl)⟩, ⟨rfl, fun β => (GOk.plain (op_assign (V := (eqVP (tupAt 0 (β 3)))) (opt 0 rfl)) rfl)⟩, ⟨rfl, fun β => (GOk.plain (op_assign (V := (eqVP (tupAt 1 (β 3)))) (opt 0 rfl)) rfl)⟩, trivial⟩
      clear h
      intro β a w h
      change SatL c [.slot 3 (intVP .i64 a_3), .slot 4 (intVP .i64 a_4), .slot 5 (boolVP a_5), .slot 6 (lpVP p1 0), .slot 7 (lpVP p2 0), .slot 8 (lpVP p3 0), .slot 13 (eqVP p9), .slot 14 (eqVP (tupAt 0 (β 3))), .slot 15 (eqVP (tupAt 1 (β 3))), .res (lb p1 24 [bytesCk 32 a_0]), .res (lb p2 24 [bytesCk 32 a_1]), .res (lb p3 24 [bytesCk 32 a_2]), .res (RLog_e p9 (some r8)), .res (own (tupAt 0 (β 3)) 24 32 (dC 32) r10.1), .res (own (tupAt 1 (β 3)) 24 32 (dC 32) r10.2.1), .res (Log_e (.pointer none) r10.2.2)] a w at h
      generalize β 3 = p11 at h
      clear β
      show Code.wp Tryd.prog _ _ a w
      refine wp_seq ?_
      obtain ⟨r12, hr12, hF⟩ := bind_some hF
      refine region_do (n := 88) [.slot 36 100000 100000 (fun _ _ => (eqVP p9)),
      .slot 37 100000 100000 (fun _ _ => (aggVP [bytesCk 32 a_0])),
      .slot 38 100000 100000 (fun _ _ => (intVP .i64 a_3)),
      .slot 39 100000 100000 (fun _ _ => (aggVP [bytesCk 32 r12.1])),
      .res 100000 100000 (fun _ _ => (RLog_e p9 r12.2)),
      .slot 16 4 100000 (fun v1_ _ => (lpVP v1_ 0)),
      .res 4 100000 (fun v1_ _ => (lb (v1_) 24 [bytesCk 32 (List.replicate 32 0)])),
      .res 4 100000 (fun v1_ _ => (lb (v1_) 24 [bytesCk 32 r12.1]))] [0, 1, 2, 3, 3, 4, 4, 5] [⟨[6], [], [16], [], some 36⟩, ⟨[3, 9], [], [17], [0], some 37⟩, ⟨[0], [], [18], [0, 1], some 38⟩, ⟨[16, 17, 18], [12], [19, 20], [0, 1, 2], some 39⟩, ⟨[], [], [21, 22], [0, 1, 2, 3], some 16⟩, ⟨[21, 19], [22], [23], [0, 1, 2, 3, 4], none⟩] [1, 2, 4, 5, 6, 7, 8, 21, 10, 11, 13, 14, 15, 20, 23] mixed hn hG h (by kernel_rfl) ?_ ?_
      · exact ⟨⟨rfl, fun β => (GOk.plain (op_move (opt 0 rfl)) rfl)⟩, ⟨rfl, fun β => (GOk.plain (op_load_lb [] [bytesCk 32 a_0] [] 1 Tryd.isAgg24 Tryd.sizeOf24 (opt 0 rfl) rfl rfl rfl) rfl)⟩, ⟨rfl, fun β => (GOk.plain (op_move (opt 0 rfl)) rfl)⟩, ⟨rfl, fun β => (GOk.plain (op_call Tryd.call28 (ref05_Word_ok hr12) ⟨(opt 0 rfl), (opt 1 rfl), (opt 2 rfl), trivial⟩) rfl)⟩, ⟨rfl, fun β => (GOk.plain (op_alloc Tryd.zeroValue24 z24) rfl)⟩, ⟨rfl, fun β => (GOk.plain (op_store_lb [] [bytesCk 32 (List.replicate 32 0)] [] [bytesCk 32 r12.1] Tryd.sizeOf24 (opt 0 rfl) (opt 1 rfl) (cells_agg _) rfl rfl rfl) rfl)⟩, trivial⟩
      clear h
      intro β a w h
      change SatL c [.slot 4 (intVP .i64 a_4), .slot 5 (boolVP a_5), .slot 7 (lpVP p2 0), .slot 8 (lpVP p3 0), .slot 13 (eqVP p9), .slot 14 (eqVP (tupAt 0 p11)), .slot 15 (eqVP (tupAt 1 p11)), .slot 16 (lpVP (β 4) 0), .res (lb p2 24 [bytesCk 32 a_1]), .res (lb p3 24 [bytesCk 32 a_2]), .res (own (tupAt 0 p11) 24 32 (dC 32) r10.1), .res (own (tupAt 1 p11) 24 32 (dC 32) r10.2.1), .res (Log_e (.pointer none) r10.2.2), .res (RLog_e p9 r12.2), .res (lb (β 4) 24 [bytesCk 32 r12.1])] a w at h
      generalize β 4 = p13 at h
      clear β
      show Code.wp Tryd.prog _ _ a w
      refine wp_seq ?_
      refine region_do (n := 88) [.slot 40 100000 100000 (fun _ _ => (intVP .i64 a_4)),
      .slot 41 100000 100000 (fun _ _ => (intVP .u64 (IntKind.wrap .u64 a_4))),
      .slot 42 100000 100000 (fun _ _ => (intVP .u64 ((IntKind.wrap .u64 a_4).tmod 32))),
      .slot 43 100000 100000 (fun _ _ => (intVP .i64 (IntKind.wrap .i64 ((IntKind.wrap .u64 a_4).tmod 32)))),
      .slot 17 100000 100000 (fun _ _ => (intVP .i64 (IntKind.wrap .i64 ((IntKind.wrap .u64 a_4).tmod 32))))] [0, 1, 2, 3, 4] [⟨[0], [], [15], [], some 40⟩, ⟨[15], [], [16], [0], some 41⟩, ⟨[16], [], [17], [0, 1], some 42⟩, ⟨[17], [], [18], [0, 1, 2], some 43⟩, ⟨[18], [], [19], [0, 1, 2, 3], some 17⟩] [1, 2, 3, 4, 5, 6, 7, 19, 8, 9, 10, 11, 12, 13, 14] mixed hn hG h (by kernel_rfl) ?_ ?_
      · exact ⟨⟨rfl, fun β => (GOk.plain (op_move (opt 0 rfl)) rfl)⟩, ⟨rfl, fun β => (GOk.plain (op_convert_int Tryd.underlying3 Tryd.underlying57 (opt 0 rfl)) rfl)⟩, ⟨rfl, fun β => (GOk.plain (op_bin (bin_rem (by decide)) (opt 0 rfl) (opc (ic (by decide)))) rfl)⟩, ⟨rfl, fun β => (GOk.plain (op_convert_int Tryd.underlying57 Tryd.underlying3 (opt 0 rfl)) rfl)⟩, ⟨rfl, fun β => (GOk.plain (op_assign (opt 0 rfl)) rfl)⟩, trivial⟩
      clear h
      intro β a w h
      change SatL c [.slot 5 (boolVP a_5), .slot 7 (lpVP p2 0), .slot 8 (lpVP p3 0), .slot 13 (eqVP p9), .slot 14 (eqVP (tupAt 0 p11)), .slot 15 (eqVP (tupAt 1 p11)), .slot 16 (lpVP p13 0), .slot 17 (intVP .i64 (IntKind.wrap .i64 ((IntKind.wrap .u64 a_4).tmod 32))), .res (lb p2 24 [bytesCk 32 a_1]), .res (lb p3 24 [bytesCk 32 a_2]), .res (own (tupAt 0 p11) 24 32 (dC 32) r10.1), .res (own (tupAt 1 p11) 24 32 (dC 32) r10.2.1), .res (Log_e (.pointer none) r10.2.2), .res (RLog_e p9 r12.2), .res (lb p13 24 [bytesCk 32 r12.1])] a w at h
      clear β
      show Code.wp Tryd.prog _ _ a w
      refine wp_seq ?_
      refine region_do (n := 88) [.slot 44 100000 100000 (fun _ _ => (eqVP (tupAt 0 p11))),
      .slot 18 100000 100000 (fun _ _ => (eqVP (tupAt 0 p11)))] [0, 1] [⟨[4], [], [15], [], some 44⟩, ⟨[15], [], [16], [0], some 18⟩] [0, 1, 2, 3, 4, 5, 6, 7, 16, 8, 9, 10, 11, 12, 13, 14] mixed hn hG h (by kernel_rfl) ?_ ?_
      · exact ⟨⟨rfl, fun β => (GOk.plain (op_move (opt 0 rfl)) rfl)⟩, ⟨rfl, fun β => (GOk.plain (op_assign (opt 0 rfl)) rfl)⟩, trivial⟩
      clear h
      intro β a w h
      change SatL c [.slot 5 (boolVP a_5), .slot 7 (lpVP p2 0), .slot 8 (lpVP p3 0), .slot 13 (eqVP p9), .slot 14 (eqVP (tupAt 0 p11)), .slot 15 (eqVP (tupAt 1 p11)), .slot 16 (lpVP p13 0), .slot 17 (intVP .i64 (IntKind.wrap .i64 ((IntKind.wrap .u64 a_4).tmod 32))), .slot 18 (eqVP (tupAt 0 p11)), .res (lb p2 24 [bytesCk 32 a_1]), .res (lb p3 24 [bytesCk 32 a_2]), .res (own (tupAt 0 p11) 24 32 (dC 32) r10.1), .res (own (tupAt 1 p11) 24 32 (dC 32) r10.2.1), .res (Log_e (.pointer none) r10.2.2), .res (RLog_e p9 r12.2), .res (lb p13 24 [bytesCk 32 r12.1])] a w at h
      clear β
      show Code.wp Tryd.prog _ _ a w
      refine wp_seq ?_
      refine wp_seq ?_
      refine region_do (n := 88) [.slot 45 100000 100000 (fun _ _ => (boolVP a_5))] [0] [⟨[0], [], [16], [], some 45⟩] [1, 2, 3, 4, 5, 6, 7, 8, 16, 9, 10, 11, 12, 13, 14, 15] mixed hn hG h (by kernel_rfl) ?_ ?_
      · exact ⟨⟨rfl, fun β => (GOk.plain (op_move (opt 0 rfl)) rfl)⟩, trivial⟩
      clear h
      intro β a w h
      change SatL c [.slot 7 (lpVP p2 0), .slot 8 (lpVP p3 0), .slot 13 (eqVP p9), .slot 14 (eqVP (tupAt 0 p11)), .slot 15 (eqVP (tupAt 1 p11)), .slot 16 (lpVP p13 0), .slot 17 (intVP .i64 (IntKind.wrap .i64 ((IntKind.wrap .u64 a_4).tmod 32))), .slot 18 (eqVP (tupAt 0 p11)), .slot 45 (boolVP a_5), .res (lb p2 24 [bytesCk 32 a_1]), .res (lb p3 24 [bytesCk 32 a_2]), .res (own (tupAt 0 p11) 24 32 (dC 32) r10.1), .res (own (tupAt 1 p11) 24 32 (dC 32) r10.2.1), .res (Log_e (.pointer none) r10.2.2), .res (RLog_e p9 r12.2), .res (lb p13 24 [bytesCk 32 r12.1])] a w at h
      clear β
      show Code.wp Tryd.prog _ _ a w
      refine cond_L h 8 rfl (fun hb16 => ?_) (fun hb16 => ?_)
      · replace hF := tt_of hb16 hF
        replace h := h.sub [0, 1, 2, 3, 4, 5, 6, 9, 10, 11, 12, 13, 14, 15] (by rfl)
        change SatL c [.slot 7 (lpVP p2 0), .slot 8 (lpVP p3 0), .slot 13 (eqVP p9), .slot 14 (eqVP (tupAt 0 p11)), .slot 15 (eqVP (tupAt 1 p11)), .slot 16 (lpVP p13 0), .slot 17 (intVP .i64 (IntKind.wrap .i64 ((IntKind.wrap .u64 a_4).tmod 32))), .res (lb p2 24 [bytesCk 32 a_1]), .res (lb p3 24 [bytesCk 32 a_2]), .res (own (tupAt 0 p11) 24 32 (dC 32) r10.1), .res (own (tupAt 1 p11) 24 32 (dC 32) r10.2.1), .res (Log_e (.pointer none) r10.2.2), .res (RLog_e p9 r12.2), .res (lb p13 24 [bytesCk 32 r12.1])] a w at h
        refine region_do (n := 88) [.slot 46 100000 100000 (fun _ _ => (eqVP (tupAt 1 p11))),
      .slot 18 100000 100000 (fun _ _ => (eqVP (tupAt 1 p11)))] [0, 1] [⟨[4], [], [14], [], some 46⟩, ⟨[14], [], [15], [0], some 18⟩] [0, 1, 2, 3, 4, 5, 6, 15, 7, 8, 9, 10, 11, 12, 13] mixed hn hG h (by kernel_rfl) ?_ ?_
        · exact ⟨⟨rfl, fun β => (GOk.plain (op_move (opt 0 rfl)) rfl)⟩, ⟨rfl, fun β => (GOk.plain (op_assign (opt 0 rfl)) rfl)⟩, trivial⟩
        clear h
        intro β a w h
        change SatL c [.slot 7 (lpVP p2 0), .slot 8 (lpVP p3 0), .slot 13 (eqVP p9), .slot 14 (eqVP (tupAt 0 p11)), .slot 15 (eqVP (tupAt 1 p11)), .slot 16 (lpVP p13 0), .slot 17 (intVP .i64 (IntKind.wrap .i64 ((IntKind.wrap .u64 a_4).tmod 32))), .slot 18 (eqVP (tupAt 1 p11)), .res (lb p2 24 [bytesCk 32 a_1]), .res (lb p3 24 [bytesCk 32 a_2]), .res (own (tupAt 0 p11) 24 32 (dC 32) r10.1), .res (own (tupAt 1 p11) 24 32 (dC 32) r10.2.1), .res (Log_e (.pointer none) r10.2.2), .res (RLog_e p9 r12.2), .res (lb p13 24 [bytesCk 32 r12.1])] a w at h
        clear β
        show Code.wp Tryd.prog _ _ a w
        refine wp_seq ?_
        refine wp_seq ?_
        refine region_do (n := 88) [.slot 47 100000 100000 (fun _ _ => (intVP .i64 0))] [0] [⟨[], [], [15], [], some 47⟩] [0, 1, 2, 3, 4, 5, 6, 7, 15, 8, 9, 10, 11, 12, 13, 14] mixed hn hG h (by kernel_rfl) ?_ ?_
        · exact ⟨⟨rfl, fun β => (GOk.plain (op_move (opc (ic (by decide)))) rfl)⟩, trivial⟩
        clear h
        intro β a w h
        change SatL c [.slot 7 (lpVP p2 0), .slot 8 (lpVP p3 0), .slot 13 (eqVP p9), .slot 14 (eqVP (tupAt 0 p11)), .slot 15 (eqVP (tupAt 1 p11)), .slot 16 (lpVP p13 0), .slot 17 (intVP .i64 (IntKind.wrap .i64 ((IntKind.wrap .u64 a_4).tmod 32))), .slot 18 (eqVP (tupAt 1 p11)), .slot 47 (intVP .i64 0), .res (lb p2 24 [bytesCk 32 a_1]), .res (lb p3 24 [bytesCk 32 a_2]), .res (own (tupAt 0 p11) 24 32 (dC 32) r10.1), .res (own (tupAt 1 p11) 24 32 (dC 32) r10.2.1), .res (Log_e (.pointer none) r10.2.2), .res (RLog_e p9 r12.2), .res (lb p13 24 [bytesCk 32 r12.1])] a w at h
        clear β
        show Code.wp Tryd.prog _ _ a w
        refine wp_block ?_
        obtain ⟨cr29, hl30, hF⟩ := bind_some hF
        refine wp_mono (wp_loopN (R := Bool) (S := Int × (List (List UInt8))) (fun s a w => SatL c [.slot 7 (lpVP p2 0), .slot 8 (lpVP p3 0), .slot 13 (eqVP p9), .slot 14 (eqVP (tupAt 0 p11)), .slot 15 (eqVP (tupAt 1 p11)), .slot 16 (lpVP p13 0), .slot 17 (intVP .i64 (IntKind.wrap .i64 ((IntKind.wrap .u64 a_4).tmod 32))), .slot 18 (eqVP (tupAt 1 p11)), .slot 47 (intVP .i64 s.1), .res (lb p2 24 [bytesCk 32 a_1]), .res (lb p3 24 [bytesCk 32 a_2]), .res (own (tupAt 0 p11) 24 32 (dC 32) r10.1), .res (own (tupAt 1 p11) 24 32 (dC 32) s.2), .res (Log_e (.pointer none) r10.2.2), .res (RLog_e p9 r12.2), .res (lb p13 24 [bytesCk 32 r12.1])] a w) (fun res e a w => match res with | .next s => e = .exit 0 ∧ SatL c [.slot 7 (lpVP p2 0), .slot 13 (eqVP p9), .slot 14 (eqVP (tupAt 0 p11)), .slot 15 (eqVP (tupAt 1 p11)), .slot 16 (lpVP p13 0), .res (lb p2 24 [bytesCk 32 a_1]), .res (own (tupAt 0 p11) 24 32 (dC 32) r10.1), .res (own (tupAt 1 p11) 24 32 (dC 32) s.2), .res (Log_e (.pointer none) r10.2.2), .res (RLog_e p9 r12.2), .res (lb p13 24 [bytesCk 32 r12.1])] a w | .ret r => e = .ret ∧ RetOk Tryd.prog Tryd.f8 c (boolVP r) (fun _ => []) a w) ?_ _ (0, r10.2.1) _ _ _ (h.sub [0, 1, 2, 3, 4, 5, 6, 7, 8, 9, 10, 11, 12, 13, 14, 15] (by rfl)) hl30) ?_
        · clear hl30 hF h
          intro s a w o h hF
          obtain ⟨x19, x20⟩ := s
          change law05_LamportTurns.b1 a_2 a_4 x19 x20 = some o at hF
          unfold law05_LamportTurns.b1 at hF
          change SatL c [.slot 7 (lpVP p2 0), .slot 8 (lpVP p3 0), .slot 13 (eqVP p9), .slot 14 (eqVP (tupAt 0 p11)), .slot 15 (eqVP (tupAt 1 p11)), .slot 16 (lpVP p13 0), .slot 17 (intVP .i64 (IntKind.wrap .i64 ((IntKind.wrap .u64 a_4).tmod 32))), .slot 18 (eqVP (tupAt 1 p11)), .slot 47 (intVP .i64 x19), .res (lb p2 24 [bytesCk 32 a_1]), .res (lb p3 24 [bytesCk 32 a_2]), .res (own (tupAt 0 p11) 24 32 (dC 32) r10.1), .res (own (tupAt 1 p11) 24 32 (dC 32) x20), .res (Log_e (.pointer none) r10.2.2), .res (RLog_e p9 r12.2), .res (lb p13 24 [bytesCk 32 r12.1])] a w at h
          refine wp_seq ?_
          refine region_do (n := 88) [.slot 48 100000 100000 (fun _ _ => (boolVP (decide (x19 < (32 : Int)))))] [0] [⟨[8], [], [16], [], some 48⟩] [0, 1, 2, 3, 4, 5, 6, 7, 8, 16, 9, 10, 11, 12, 13, 14, 15] mixed hn hG h (by kernel_rfl) ?_ ?_
          · exact ⟨⟨rfl, fun β => (GOk.plain (op_bin bin_lss (opt 0 rfl) (opc (ic (by decide)))) rfl)⟩, trivial⟩
          clear h
          intro β a w h
          change SatL c [.slot 7 (lpVP p2 0), .slot 8 (lpVP p3 0), .slot 13 (eqVP p9), .slot 14 (eqVP (tupAt 0 p11)), .slot 15 (eqVP (tupAt 1 p11)), .slot 16 (lpVP p13 0), .slot 17 (intVP .i64 (IntKind.wrap .i64 ((IntKind.wrap .u64 a_4).tmod 32))), .slot 18 (eqVP (tupAt 1 p11)), .slot 47 (intVP .i64 x19), .slot 48 (boolVP (decide (x19 < (32 : Int)))), .res (lb p2 24 [bytesCk 32 a_1]), .res (lb p3 24 [bytesCk 32 a_2]), .res (own (tupAt 0 p11) 24 32 (dC 32) r10.1), .res (own (tupAt 1 p11) 24 32 (dC 32) x20), .res (Log_e (.pointer none) r10.2.2), .res (RLog_e p9 r12.2), .res (lb p13 24 [bytesCk 32 r12.1])] a w at h
          clear β
          show Code.wp Tryd.prog _ _ a w
          refine wp_seq ?_
          refine cond_L h 9 rfl (fun hb26 => ?_) (fun hb26 => ?_)
          · replace hF := tt_of hb26 hF
            replace h := h.sub [0, 1, 2, 3, 4, 5, 6, 7, 8, 10, 11, 12, 13, 14, 15, 16] (by rfl)
            change SatL c [.slot 7 (lpVP p2 0), .slot 8 (lpVP p3 0), .slot 13 (eqVP p9), .slot 14 (eqVP (tupAt 0 p11)), .slot 15 (eqVP (tupAt 1 p11)), .slot 16 (lpVP p13 0), .slot 17 (intVP .i64 (IntKind.wrap .i64 ((IntKind.wrap .u64 a_4).tmod 32))), .slot 18 (eqVP (tupAt 1 p11)), .slot 47 (intVP .i64 x19), .res (lb p2 24 [bytesCk 32 a_1]), .res (lb p3 24 [bytesCk 32 a_2]), .res (own (tupAt 0 p11) 24 32 (dC 32) r10.1), .res (own (tupAt 1 p11) 24 32 (dC 32) x20), .res (Log_e (.pointer none) r10.2.2), .res (RLog_e p9 r12.2), .res (lb p13 24 [bytesCk 32 r12.1])] a w at h
            refine wp_skip ?_
            show Code.wp Tryd.prog _ _ a w
            refine wp_seq ?_
            refine wp_block ?_
            refine wp_seq ?_
            refine region_do (n := 88) [.slot 49 100000 100000 (fun _ _ => (intVP .i64 x19)),
      .slot 19 100000 100000 (fun _ _ => (intVP .i64 x19))] [0, 1] [⟨[8], [], [16], [], some 49⟩, ⟨[16], [], [17], [0], some 19⟩] [0, 1, 2, 3, 4, 5, 6, 7, 17, 8, 9, 10, 11, 12, 13, 14, 15] mixed hn hG h (by kernel_rfl) ?_ ?_
            · exact ⟨⟨rfl, fun β => (GOk.plain (op_move (opt 0 rfl)) rfl)⟩, ⟨rfl, fun β => (GOk.plain (op_assign (opt 0 rfl)) rfl)⟩, trivial⟩
            clear h
            intro β a w h
            change SatL c [.slot 7 (lpVP p2 0), .slot 8 (lpVP p3 0), .slot 13 (eqVP p9), .slot 14 (eqVP (tupAt 0 p11)), .slot 15 (eqVP (tupAt 1 p11)), .slot 16 (lpVP p13 0), .slot 17 (intVP .i64 (IntKind.wrap .i64 ((IntKind.wrap .u64 a_4).tmod 32))), .slot 18 (eqVP (tupAt 1 p11)), .slot 19 (intVP .i64 x19), .slot 47 (intVP .i64 x19), .res (lb p2 24 [bytesCk 32 a_1]), .res (lb p3 24 [bytesCk 32 a_2]), .res (own (tupAt 0 p11) 24 32 (dC 32) r10.1), .res (own (tupAt 1 p11) 24 32 (dC 32) x20), .res (Log_e (.pointer none) r10.2.2), .res (RLog_e p9 r12.2), .res (lb p13 24 [bytesCk 32 r12.1])] a w at h
            clear β
            show Code.wp Tryd.prog _ _ a w
            obtain ⟨hv27, hF⟩ := ite_some hF
            obtain ⟨hv28, hF⟩ := ite_some hF
            refine region_do (n := 88) [.slot 50 100000 100000 (fun _ _ => (eqVP (tupAt 1 p11))),
      .slot 51 100000 100000 (fun _ _ => (intVP .i64 (IntKind.wrap .i64 ((IntKind.wrap .u64 a_4).tmod 32)))),
      .slot 52 100000 100000 (fun _ _ => (intVP .i64 x19)),
      .slot 53 100000 100000 (fun _ _ => (eapVP (tupAt 1 p11) ((IntKind.wrap .i64 ((IntKind.wrap .u64 a_4).tmod 32)).toNat * 32))),
      .slot 54 100000 100000 (fun _ _ => (eapVP (tupAt 1 p11) ((IntKind.wrap .i64 ((IntKind.wrap .u64 a_4).tmod 32)).toNat * 32 + x19.toNat * 1))),
      .slot 55 100000 100000 (fun _ _ => (intVP .u8 (((x20.getD (IntKind.wrap .i64 ((IntKind.wrap .u64 a_4).tmod 32)).toNat default).getD x19.toNat 0).toNat))),
      .slot 56 100000 100000 (fun _ _ => (intVP .i64 x19)),
      .slot 57 100000 100000 (fun _ _ => (lpVP p3 (0 + x19.toNat * 1))),
      .slot 58 100000 100000 (fun _ _ => (intVP .u8 ((a_2.getD x19.toNat 0).toNat))),
      .slot 59 100000 100000 (fun _ _ => (intVP .u8 (bits .xor .u8 (((x20.getD (IntKind.wrap .i64 ((IntKind.wrap .u64 a_4).tmod 32)).toNat default).getD x19.toNat 0).toNat) ((a_2.getD x19.toNat 0).toNat)))),
      .slot 60 100000 100000 (fun _ _ => (eapVP (tupAt 1 p11) ((IntKind.wrap .i64 ((IntKind.wrap .u64 a_4).tmod 32)).toNat * 32))),
      .slot 61 100000 100000 (fun _ _ => (eapVP (tupAt 1 p11) ((IntKind.wrap .i64 ((IntKind.wrap .u64 a_4).tmod 32)).toNat * 32 + x19.toNat * 1))),
      .res 100000 100000 (fun _ _ => (own (tupAt 1 p11) 24 32 (dC 32) (x20.set (IntKind.wrap .i64 ((IntKind.wrap .u64 a_4).tmod 32)).toNat ((x20.getD (IntKind.wrap .i64 ((IntKind.wrap .u64 a_4).tmod 32)).toNat default).set x19.toNat (u8of (bits .xor .u8 (((x20.getD (IntKind.wrap .i64 ((IntKind.wrap .u64 a_4).tmod 32)).toNat default).getD x19.toNat 0).toNat) ((a_2.getD x19.toNat 0).toNat)))))))] [0, 1, 2, 3, 4, 5, 6, 7, 8, 9, 10, 11, 12] [⟨[7], [], [17], [], some 50⟩, ⟨[6], [], [18], [], some 51⟩, ⟨[8], [], [19], [], some 52⟩, ⟨[17, 13, 18], [], [20], [0, 1], some 53⟩, ⟨[20, 19], [], [21], [0, 1, 2, 3], some 54⟩, ⟨[13, 21], [], [22], [0, 1, 2, 3, 4], some 55⟩, ⟨[8], [], [23], [], some 56⟩, ⟨[1, 23], [], [24], [6], some 57⟩, ⟨[24, 11], [], [25], [6, 7], some 58⟩, ⟨[22, 25], [], [26], [0, 1, 2, 3, 4, 5, 6, 7, 8], some 59⟩, ⟨[17, 13, 18], [], [27], [0, 1], some 60⟩, ⟨[27, 19], [], [28], [0, 1, 2, 3, 4, 5, 6, 7, 8, 9, 10], some 61⟩, ⟨[28, 26], [13], [29], [0, 1, 2, 3, 4, 5, 6, 7, 8, 9, 10, 11], none⟩] [0, 1, 2, 3, 4, 5, 6, 7, 9, 10, 11, 12, 29, 14, 15, 16] mixed hn hG h (by kernel_rfl) ?_ ?_
            · exact ⟨⟨rfl, fun β => (GOk.plain (op_move (opt 0 rfl)) rfl)⟩, ⟨rfl, fun β => (GOk.plain (op_move (opt 0 rfl)) rfl)⟩, ⟨rfl, fun β => (GOk.plain (op_move (opt 0 rfl)) rfl)⟩, ⟨rfl, fun β => (GOk.plain (op_indexAddr_own 0 1 Tryd.underlying46 Tryd.sizeOf24 rfl rfl (opt 2 rfl) hv27) rfl)⟩, ⟨rfl, fun β => (GOk.plain (op_indexAddr_ownE Tryd.underlying24 Tryd.sizeOf5 (opt 0 rfl) (opt 1 rfl) hv28) rfl)⟩, ⟨rfl, fun β => (GOk.plain (op_load_ownB (i := IntKind.wrap .i64 ((IntKind.wrap .u64 a_4).tmod 32)) (m := x19) 0 Tryd.isAgg5 (opt 1 rfl) rfl rfl hv27 hv28) rfl)⟩, ⟨rfl, fun β => (GOk.plain (op_move (opt 0 rfl)) rfl)⟩, ⟨rfl, fun β => (GOk.plain (op_indexAddr_lb Tryd.underlying24 Tryd.sizeOf5 (opt 0 rfl) (opt 1 rfl) hv28) rfl)⟩, ⟨rfl, fun β => (GOk.plain (op_load_lbB (i := x19) [] [] 1 Tryd.isAgg5 (opt 0 rfl) rfl rfl hv28) rfl)⟩, ⟨rfl, fun β => (GOk.plain (op_bin bin_xor (opt 0 rfl) (opt 1 rfl)) rfl)⟩, ⟨rfl, fun β => (GOk.plain (op_indexAddr_own 0 1 Tryd.underlying46 Tryd.sizeOf24 rfl rfl (opt 2 rfl) hv27) rfl)⟩, ⟨rfl, fun β => (GOk.plain (op_indexAddr_ownE Tryd.underlying24 Tryd.sizeOf5 (opt 0 rfl) (opt 1 rfl) hv28) rfl)⟩, ⟨rfl, fun β => (GOk.plain (op_store_ownB (i := IntKind.wrap .i64 ((IntKind.wrap .u64 a_4).tmod 32)) (m := x19) Tryd.sizeOf5 (opt 0 rfl) (opt 1 rfl) rfl hv27 hv28) rfl)⟩, trivial⟩
            clear h
            intro β a w h
            change SatL c [.slot 7 (lpVP p2 0), .slot 8 (lpVP p3 0), .slot 13 (eqVP p9), .slot 14 (eqVP (tupAt 0 p11)), .slot 15 (eqVP (tupAt 1 p11)), .slot 16 (lpVP p13 0), .slot 17 (intVP .i64 (IntKind.wrap .i64 ((IntKind.wrap .u64 a_4).tmod 32))), .slot 18 (eqVP (tupAt 1 p11)), .slot 47 (intVP .i64 x19), .res (lb p2 24 [bytesCk 32 a_1]), .res (lb p3 24 [bytesCk 32 a_2]), .res (own (tupAt 0 p11) 24 32 (dC 32) r10.1), .res (own (tupAt 1 p11) 24 32 (dC 32) (x20.set (IntKind.wrap .i64 ((IntKind.wrap .u64 a_4).tmod 32)).toNat ((x20.getD (IntKind.wrap .i64 ((IntKind.wrap .u64 a_4).tmod 32)).toNat default).set x19.toNat (u8of (bits .xor .u8 (((x20.getD (IntKind.wrap .i64 ((IntKind.wrap .u64 a_4).tmod 32)).toNat default).getD x19.toNat 0).toNat) ((a_2.getD x19.toNat 0).toNat)))))), .res (Log_e (.pointer none) r10.2.2), .res (RLog_e p9 r12.2), .res (lb p13 24 [bytesCk 32 r12.1])] a w at h
            clear β
            show Code.wp Tryd.prog _ _ a w
            refine region_do (n := 88) [.slot 62 100000 100000 (fun _ _ => (intVP .i64 (IntKind.wrap .i64 (x19 + 1)))),
      .slot 47 100000 100000 (fun _ _ => (intVP .i64 (IntKind.wrap .i64 (x19 + 1))))] [0, 1] [⟨[8], [], [16], [], some 62⟩, ⟨[16], [8], [17], [0], some 47⟩] [0, 1, 2, 3, 4, 5, 6, 7, 17, 9, 10, 11, 12, 13, 14, 15] mixed hn hG h (by kernel_rfl) ?_ ?_
            · exact ⟨⟨rfl, fun β => (GOk.plain (op_bin bin_add (opt 0 rfl) (opc (ic (by decide)))) rfl)⟩, ⟨rfl, fun β => (GOk.drop _ (GOk.plain (op_move (opt 0 rfl)) rfl))⟩, trivial⟩
            clear h
            intro β a w h
            change SatL c [.slot 7 (lpVP p2 0), .slot 8 (lpVP p3 0), .slot 13 (eqVP p9), .slot 14 (eqVP (tupAt 0 p11)), .slot 15 (eqVP (tupAt 1 p11)), .slot 16 (lpVP p13 0), .slot 17 (intVP .i64 (IntKind.wrap .i64 ((IntKind.wrap .u64 a_4).tmod 32))), .slot 18 (eqVP (tupAt 1 p11)), .slot 47 (intVP .i64 (IntKind.wrap .i64 (x19 + 1))), .res (lb p2 24 [bytesCk 32 a_1]), .res (lb p3 24 [bytesCk 32 a_2]), .res (own (tupAt 0 p11) 24 32 (dC 32) r10.1), .res (own (tupAt 1 p11) 24 32 (dC 32) (x20.set (IntKind.wrap .i64 ((IntKind.wrap .u64 a_4).tmod 32)).toNat ((x20.getD (IntKind.wrap .i64 ((IntKind.wrap .u64 a_4).tmod 32)).toNat default).set x19.toNat (u8of (bits .xor .u8 (((x20.getD (IntKind.wrap .i64 ((IntKind.wrap .u64 a_4).tmod 32)).toNat default).getD x19.toNat 0).toNat) ((a_2.getD x19.toNat 0).toNat)))))), .res (Log_e (.pointer none) r10.2.2), .res (RLog_e p9 r12.2), .res (lb p13 24 [bytesCk 32 r12.1])] a w at h
            clear β
            obtain rfl := Option.some.inj hF
            exact ⟨rfl, h.sub [0, 1, 2, 3, 4, 5, 6, 7, 8, 9, 10, 11, 12, 13, 14, 15] (by rfl)⟩
          · replace hF := ff_of hb26 hF
            replace h := h.sub [0, 1, 2, 3, 4, 5, 6, 7, 8, 10, 11, 12, 13, 14, 15, 16] (by rfl)
            change SatL c [.slot 7 (lpVP p2 0), .slot 8 (lpVP p3 0), .slot 13 (eqVP p9), .slot 14 (eqVP (tupAt 0 p11)), .slot 15 (eqVP (tupAt 1 p11)), .slot 16 (lpVP p13 0), .slot 17 (intVP .i64 (IntKind.wrap .i64 ((IntKind.wrap .u64 a_4).tmod 32))), .slot 18 (eqVP (tupAt 1 p11)), .slot 47 (intVP .i64 x19), .res (lb p2 24 [bytesCk 32 a_1]), .res (lb p3 24 [bytesCk 32 a_2]), .res (own (tupAt 0 p11) 24 32 (dC 32) r10.1), .res (own (tupAt 1 p11) 24 32 (dC 32) x20), .res (Log_e (.pointer none) r10.2.2), .res (RLog_e p9 r12.2), .res (lb p13 24 [bytesCk 32 r12.1])] a w at h
            refine wp_exit ?_
            obtain rfl := Option.some.inj hF
            exact ⟨exit_ne _, rfl, h.sub [0, 2, 3, 4, 5, 9, 11, 12, 13, 14, 15] (by rfl)⟩
        · clear hl30
          intro e a w hq
          cases cr29 with
          | ret r31 =>
            obtain ⟨rfl, hq⟩ := hq
            obtain rfl := Option.some.inj hF
            exact ⟨.inl rfl, hq⟩
          | next s32 =>
            obtain ⟨y33, y34⟩ := s32
            obtain ⟨rfl, h⟩ := hq
            change SatL c [.slot 7 (lpVP p2 0), .slot 13 (eqVP p9), .slot 14 (eqVP (tupAt 0 p11)), .slot 15 (eqVP (tupAt 1 p11)), .slot 16 (lpVP p13 0), .res (lb p2 24 [bytesCk 32 a_1]), .res (own (tupAt 0 p11) 24 32 (dC 32) r10.1), .res (own (tupAt 1 p11) 24 32 (dC 32) y34), .res (Log_e (.pointer none) r10.2.2), .res (RLog_e p9 r12.2), .res (lb p13 24 [bytesCk 32 r12.1])] a w at h
            refine inBlock_at ?_
            show Code.wp Tryd.prog _ _ a w
            refine wp_seq ?_
            replace h := h.ownacc 6 rfl
            change SatL c [.slot 7 (lpVP p2 0), .slot 13 (eqVP p9), .slot 14 (eqVP (tupAt 0 p11)), .slot 15 (eqVP (tupAt 1 p11)), .slot 16 (lpVP p13 0), .res (lb p2 24 [bytesCk 32 a_1]), .res (acc (tupAt 0 p11) 24 32 (dC 32) r10.1), .res (own (tupAt 1 p11) 24 32 (dC 32) y34), .res (Log_e (.pointer none) r10.2.2), .res (RLog_e p9 r12.2), .res (lb p13 24 [bytesCk 32 r12.1])] a w at h
            replace h := h.ownacc 7 rfl
            change SatL c [.slot 7 (lpVP p2 0), .slot 13 (eqVP p9), .slot 14 (eqVP (tupAt 0 p11)), .slot 15 (eqVP (tupAt 1 p11)), .slot 16 (lpVP p13 0), .res (lb p2 24 [bytesCk 32 a_1]), .res (acc (tupAt 0 p11) 24 32 (dC 32) r10.1), .res (acc (tupAt 1 p11) 24 32 (dC 32) y34), .res (Log_e (.pointer none) r10.2.2), .res (RLog_e p9 r12.2), .res (lb p13 24 [bytesCk 32 r12.1])] a w at h
            obtain ⟨r35, hr35, hF⟩ := bind_some hF
            refine region_do (n := 88) [.slot 64 100000 100000 (fun _ _ => (aggVP [bytesCk 32 a_1])),
      .slot 65 100000 100000 (fun _ _ => (eqVP (tupAt 0 p11))),
      .slot 66 100000 100000 (fun _ _ => (eqVP (tupAt 1 p11))),
      .slot 67 100000 100000 (fun _ _ => (tupVP [(aggVP [bytesCk 32 r35.1]), (boolVP r35.2.1)])),
      .res 100000 100000 (fun _ _ => (Log_e (.pointer none) r35.2.2)),
      .slot 63 100000 100000 (fun _ _ => (tupVP [(aggVP [bytesCk 32 r35.1]), (boolVP r35.2.1)])),
      .slot 68 100000 100000 (fun _ _ => (aggVP [bytesCk 32 r35.1])),
      .slot 69 100000 100000 (fun _ _ => (boolVP r35.2.1)),
      .slot 20 7 100000 (fun v1_ _ => (lpVP v1_ 0)),
      .res 7 100000 (fun v1_ _ => (lb (v1_) 24 [bytesCk 32 (List.replicate 32 0)])),
      .res 7 100000 (fun v1_ _ => (lb (v1_) 24 [bytesCk 32 r35.1])),
      .slot 21 100000 100000 (fun _ _ => (boolVP r35.2.1))] [0, 1, 2, 3, 3, 4, 5, 6, 7, 7, 8, 9] [⟨[0, 5], [], [11], [], some 64⟩, ⟨[2], [], [12], [0], some 65⟩, ⟨[3], [], [13], [0, 1], some 66⟩, ⟨[11, 12, 6, 13, 7], [8], [14, 15], [0, 1, 2], some 67⟩, ⟨[14], [], [16], [0, 1, 2, 3], some 63⟩, ⟨[16], [], [17], [0, 1, 2, 3, 4], some 68⟩, ⟨[16], [], [18], [0, 1, 2, 3, 4, 5], some 69⟩, ⟨[], [], [19, 20], [0, 1, 2, 3, 4, 5, 6], some 20⟩, ⟨[19, 17], [20], [21], [0, 1, 2, 3, 4, 5, 6, 7], none⟩, ⟨[18], [], [22], [0, 1, 2, 3, 4, 5, 6, 7, 8], some 21⟩] [0, 1, 2, 3, 4, 19, 22, 5, 6, 7, 9, 10, 15, 21] mixed hn hG h (by kernel_rfl) ?_ ?_
            · exact ⟨⟨rfl, fun β => (GOk.plain (op_load_lb [] [bytesCk 32 a_1] [] 1 Tryd.isAgg24 Tryd.sizeOf24 (opt 0 rfl) rfl rfl rfl) rfl)⟩, ⟨rfl, fun β => (GOk.plain (op_move (opt 0 rfl)) rfl)⟩, ⟨rfl, fun β => (GOk.plain (op_move (opt 0 rfl)) rfl)⟩, ⟨rfl, fun β => (GOk.plain (op_call Tryd.call26 (lamport_Opened_ok hr35) ⟨(opc (ec _)), (opt 0 rfl), (opacc 1 2 rfl rfl), (opacc 3 4 rfl rfl), trivial⟩) rfl)⟩, ⟨rfl, fun β => (GOk.plain (op_move (opt 0 rfl)) rfl)⟩, ⟨rfl, fun β => (GOk.plain (op_extract (opt 0 rfl) rfl) rfl)⟩, ⟨rfl, fun β => (GOk.plain (op_extract (opt 0 rfl) rfl) rfl)⟩, ⟨rfl, fun β => (GOk.plain (op_alloc Tryd.zeroValue24 z24) rfl)⟩, ⟨rfl, fun β => (GOk.plain (op_store_lb [] [bytesCk 32 (List.replicate 32 0)] [] [bytesCk 32 r35.1] Tryd.sizeOf24 (opt 0 rfl) (opt 1 rfl) (cells_agg _) rfl rfl rfl) rfl)⟩, ⟨rfl, fun β => (GOk.plain (op_assign (opt 0 rfl)) rfl)⟩, trivial⟩
            clear h
            intro β a w h
            change SatL c [.slot 7 (lpVP p2 0), .slot 13 (eqVP p9), .slot 14 (eqVP (tupAt 0 p11)), .slot 15 (eqVP (tupAt 1 p11)), .slot 16 (lpVP p13 0), .slot 20 (lpVP (β 7) 0), .slot 21 (boolVP r35.2.1), .res (lb p2 24 [bytesCk 32 a_1]), .res (acc (tupAt 0 p11) 24 32 (dC 32) r10.1), .res (acc (tupAt 1 p11) 24 32 (dC 32) y34), .res (RLog_e p9 r12.2), .res (lb p13 24 [bytesCk 32 r12.1]), .res (Log_e (.pointer none) r35.2.2), .res (lb (β 7) 24 [bytesCk 32 r35.1])] a w at h
            generalize β 7 = p36 at h
            clear β
            show Code.wp Tryd.prog _ _ a w
            refine wp_seq ?_
            obtain ⟨r37, hr37, hF⟩ := bind_some hF
            refine region_do (n := 88) [.slot 70 100000 100000 (fun _ _ => (eqVP p9)),
      .slot 71 100000 100000 (fun _ _ => (aggVP [bytesCk 32 a_1])),
      .slot 72 100000 100000 (fun _ _ => (eqVP (tupAt 0 p11))),
      .slot 73 100000 100000 (fun _ _ => (eqVP (tupAt 1 p11))),
      .slot 74 100000 100000 (fun _ _ => (tupVP [(aggVP [bytesCk 32 r37.1]), (boolVP r37.2.1)])),
      .res 100000 100000 (fun _ _ => (RLog_e p9 r37.2.2))] [0, 1, 2, 3, 4, 4] [⟨[1], [], [14], [], some 70⟩, ⟨[0, 7], [], [15], [0], some 71⟩, ⟨[2], [], [16], [0, 1], some 72⟩, ⟨[3], [], [17], [0, 1, 2], some 73⟩, ⟨[14, 15, 16, 8, 17, 9], [10], [18, 19], [0, 1, 2, 3], some 74⟩] [1, 4, 5, 6, 11, 12, 13, 19] mixed hn hG h (by kernel_rfl) ?_ ?_
            · exact ⟨⟨rfl, fun β => (GOk.plain (op_move (opt 0 rfl)) rfl)⟩, ⟨rfl, fun β => (GOk.plain (op_load_lb [] [bytesCk 32 a_1] [] 1 Tryd.isAgg24 Tryd.sizeOf24 (opt 0 rfl) rfl rfl rfl) rfl)⟩, ⟨rfl, fun β => (GOk.plain (op_move (opt 0 rfl)) rfl)⟩, ⟨rfl, fun β => (GOk.plain (op_move (opt 0 rfl)) rfl)⟩, ⟨rfl, fun β => (GOk.plain (op_call Tryd.call30 (ref05_Opened_ok hr37) ⟨(opt 0 rfl), (opt 1 rfl), (opacc 2 3 rfl rfl), (opacc 4 5 rfl rfl), trivial⟩) rfl)⟩, trivial⟩
            clear h
            intro β a w h
            change SatL c [.slot 13 (eqVP p9), .slot 16 (lpVP p13 0), .slot 20 (lpVP p36 0), .slot 21 (boolVP r35.2.1), .res (lb p13 24 [bytesCk 32 r12.1]), .res (Log_e (.pointer none) r35.2.2), .res (lb p36 24 [bytesCk 32 r35.1]), .res (RLog_e p9 r37.2.2)] a w at h
            clear β
            show Code.wp Tryd.prog _ _ a w
            refine wp_seq ?_
            obtain ⟨r38, hr38, hF⟩ := bind_some hF
            refine wp_cut (fun a w => ∃ (x40 : Bool), law05_LamportTurns.j1 x40 = some r ∧ SatL c [.slot 12 (boolVP x40), .res (Log_e (.pointer none) r35.2.2), .res (RLog_e p9 r37.2.2)] a w) ?_ ?_
            · rcases Bool.eq_false_or_eq_true r38 with hb41 | hb41
              · replace hF := tt_of hb41 hF
                rcases Bool.eq_false_or_eq_true r35.2.1 with hb42 | hb42
                · replace hF := tt_of hb42 hF
                  rcases Bool.eq_false_or_eq_true (!decide (r35.1 = r12.1)) with hb43 | hb43
                  · replace hF := tt_of hb43 hF
                    refine region_do (n := 88) [.slot 75 100000 100000 (fun _ _ => (boolVP r38)),
      .slot 76 100000 100000 (fun _ _ => (boolVP r38)),
      .slot 77 100000 100000 (fun _ _ => (boolVP r35.2.1)),
      .slot 78 100000 100000 (fun _ _ => (boolVP r35.2.1)),
      .slot 79 100000 100000 (fun _ _ => (boolVP r35.2.1)),
      .slot 80 100000 100000 (fun _ _ => (aggVP [bytesCk 32 r35.1])),
      .slot 81 100000 100000 (fun _ _ => (aggVP [bytesCk 32 r12.1])),
      .slot 82 100000 100000 (fun _ _ => (boolVP (!decide (r35.1 = r12.1)))),
      .slot 83 100000 100000 (fun _ _ => (boolVP (!decide (r35.1 = r12.1)))),
      .slot 84 100000 100000 (fun _ _ => (eqVP undef)),
      .slot 85 100000 100000 (fun _ _ => (eqVP undef)),
      .slot 86 100000 100000 (fun _ _ => (boolVP true)),
      .slot 87 100000 100000 (fun _ _ => (boolVP true)),
      .slot 12 100000 100000 (fun _ _ => (boolVP true))] [0, 1, 2, 3, 4, 5, 6, 7, 8, 9, 10, 11, 12, 13] [⟨[], [], [8], [], some 75⟩, ⟨[8], [], [9], [0], some 76⟩, ⟨[9, 3], [], [10], [0, 1], some 77⟩, ⟨[9, 10], [], [11], [0, 1, 2], some 78⟩, ⟨[11], [], [12], [0, 1, 2, 3], some 79⟩, ⟨[12, 2, 6], [], [13], [0, 1, 2, 3, 4], some 80⟩, ⟨[12, 1, 4], [], [14], [0, 1, 2, 3, 4, 5], some 81⟩, ⟨[12, 13, 14], [], [15], [0, 1, 2, 3, 4, 5, 6], some 82⟩, ⟨[12, 15], [], [16], [0, 1, 2, 3, 4, 5, 6, 7], some 83⟩, ⟨[16], [], [17], [0, 1, 2, 3, 4, 5, 6, 7, 8], some 84⟩, ⟨[16], [], [18], [0, 1, 2, 3, 4, 5, 6, 7, 8, 9], some 85⟩, ⟨[12, 16], [], [19], [0, 1, 2, 3, 4, 5, 6, 7, 8, 9, 10], some 86⟩, ⟨[12, 19], [], [20], [0, 1, 2, 3, 4, 5, 6, 7, 8, 9, 10, 11], some 87⟩, ⟨[20], [], [21], [0, 1, 2, 3, 4, 5, 6, 7, 8, 9, 10, 11, 12], some 12⟩] [21, 5, 7] mixed hn hG h (by kernel_rfl) ?_ ?_
                    · exact ⟨⟨rfl, fun β => (GOk.plain (op_call Tryd.call24 (law05_awake_ok hr38) trivial) rfl)⟩, ⟨rfl, fun β => (GOk.plain (op_move (opt 0 rfl)) rfl)⟩, ⟨rfl, fun β => (GOk.on_eq hb41 rfl rfl rfl (op_move (opt 0 rfl)))⟩, ⟨rfl, fun β => (GOk.plain (op_pick_t hb41 (opt 0 rfl) (opt 1 rfl)) rfl)⟩, ⟨rfl, fun β => (GOk.plain (op_move (opt 0 rfl)) rfl)⟩, ⟨rfl, fun β => (GOk.on_eq hb42 rfl rfl rfl (op_load_lb [] [bytesCk 32 r35.1] [] 1 Tryd.isAgg24 Tryd.sizeOf24 (opt 0 rfl) rfl rfl rfl))⟩, ⟨rfl, fun β => (GOk.on_eq hb42 rfl rfl rfl (op_load_lb [] [bytesCk 32 r12.1] [] 1 Tryd.isAgg24 Tryd.sizeOf24 (opt 0 rfl) rfl rfl rfl))⟩, ⟨rfl, fun β => (GOk.on_eq hb42 rfl rfl rfl (op_bin (bin_aneq Tryd.underlying24 Tryd.underlying5 Tryd.type5 Tryd.sizeOf5 Tryd.isAgg5 Tryd.eqGuardType24) (opt 0 rfl) (opt 1 rfl)))⟩, ⟨rfl, fun β => (GOk.on_eq hb42 rfl rfl rfl (op_move (opt 0 rfl)))⟩, ⟨rfl, fun β => (GOk.off_v (want := false) hb43 rfl rfl rfl rfl)⟩, ⟨rfl, fun β => (GOk.off_v (want := false) hb43 rfl rfl rfl rfl)⟩, ⟨rfl, fun β => (GOk.on_eq hb42 rfl rfl rfl (op_pick_t hb43 (opt 0 rfl) (opc (bc _))))⟩, ⟨rfl, fun β => (GOk.plain (op_pick_t hb42 (opt 0 rfl) (opt 1 rfl)) rfl)⟩, ⟨rfl, fun β => (GOk.plain (op_assign (opt 0 rfl)) rfl)⟩, trivial⟩
                    clear h
                    intro β a w h
                    change SatL c [.slot 12 (boolVP true), .res (Log_e (.pointer none) r35.2.2), .res (RLog_e p9 r37.2.2)] a w at h
                    clear β
                    exact ⟨true, hF, h.sub [0, 1, 2] (by rfl)⟩
                  · replace hF := ff_of hb43 hF
                    obtain ⟨r39, hr39, hF⟩ := bind_some hF
                    refine region_do (n := 88) [.slot 75 100000 100000 (fun _ _ => (boolVP r38)),
      .slot 76 100000 100000 (fun _ _ => (boolVP r38)),
      .slot 77 100000 100000 (fun _ _ => (boolVP r35.2.1)),
      .slot 78 100000 100000 (fun _ _ => (boolVP r35.2.1)),
      .slot 79 100000 100000 (fun _ _ => (boolVP r35.2.1)),
      .slot 80 100000 100000 (fun _ _ => (aggVP [bytesCk 32 r35.1])),
      .slot 81 100000 100000 (fun _ _ => (aggVP [bytesCk 32 r12.1])),
      .slot 82 100000 100000 (fun _ _ => (boolVP (!decide (r35.1 = r12.1)))),
      .slot 83 100000 100000 (fun _ _ => (boolVP (!decide (r35.1 = r12.1)))),
      .slot 84 100000 100000 (fun _ _ => (eqVP p9)),
      .slot 85 100000 100000 (fun _ _ => (boolVP r39)),
      .res 100000 100000 (fun _ _ => (RLog_e p9 r37.2.2)),
      .slot 86 100000 100000 (fun _ _ => (boolVP r39)),
      .slot 87 100000 100000 (fun _ _ => (boolVP r39)),
      .slot 12 100000 100000 (fun _ _ => (boolVP r39))] [0, 1, 2, 3, 4, 5, 6, 7, 8, 9, 10, 10, 11, 12, 13] [⟨[], [], [8], [], some 75⟩, ⟨[8], [], [9], [0], some 76⟩, ⟨[9, 3], [], [10], [0, 1], some 77⟩, ⟨[9, 10], [], [11], [0, 1, 2], some 78⟩, ⟨[11], [], [12], [0, 1, 2, 3], some 79⟩, ⟨[12, 2, 6], [], [13], [0, 1, 2, 3, 4], some 80⟩, ⟨[12, 1, 4], [], [14], [0, 1, 2, 3, 4, 5], some 81⟩, ⟨[12, 13, 14], [], [15], [0, 1, 2, 3, 4, 5, 6], some 82⟩, ⟨[12, 15], [], [16], [0, 1, 2, 3, 4, 5, 6, 7], some 83⟩, ⟨[16, 0], [], [17], [0, 1, 2, 3, 4, 5, 6, 7, 8], some 84⟩, ⟨[16, 17], [7], [18, 19], [0, 1, 2, 3, 4, 5, 6, 7, 8, 9], some 85⟩, ⟨[12, 16, 18], [], [20], [0, 1, 2, 3, 4, 5, 6, 7, 8, 9, 10], some 86⟩, ⟨[12, 20], [], [21], [0, 1, 2, 3, 4, 5, 6, 7, 8, 9, 10, 11], some 87⟩, ⟨[21], [], [22], [0, 1, 2, 3, 4, 5, 6, 7, 8, 9, 10, 11, 12], some 12⟩] [22, 5, 19] mixed hn hG h (by kernel_rfl) ?_ ?_
                    · exact ⟨⟨rfl, fun β => (GOk.plain (op_call Tryd.call24 (law05_awake_ok hr38) trivial) rfl)⟩, ⟨rfl, fun β => (GOk.plain (op_move (opt 0 rfl)) rfl)⟩, ⟨rfl, fun β => (GOk.on_eq hb41 rfl rfl rfl (op_move (opt 0 rfl)))⟩, ⟨rfl, fun β => (GOk.plain (op_pick_t hb41 (opt 0 rfl) (opt 1 rfl)) rfl)⟩, ⟨rfl, fun β => (GOk.plain (op_move (opt 0 rfl)) rfl)⟩, ⟨rfl, fun β => (GOk.on_eq hb42 rfl rfl rfl (op_load_lb [] [bytesCk 32 r35.1] [] 1 Tryd.isAgg24 Tryd.sizeOf24 (opt 0 rfl) rfl rfl rfl))⟩, ⟨rfl, fun β => (GOk.on_eq hb42 rfl rfl rfl (op_load_lb [] [bytesCk 32 r12.1] [] 1 Tryd.isAgg24 Tryd.sizeOf24 (opt 0 rfl) rfl rfl rfl))⟩, ⟨rfl, fun β => (GOk.on_eq hb42 rfl rfl rfl (op_bin (bin_aneq Tryd.underlying24 Tryd.underlying5 Tryd.type5 Tryd.sizeOf5 Tryd.isAgg5 Tryd.eqGuardType24) (opt 0 rfl) (opt 1 rfl)))⟩, ⟨rfl, fun β => (GOk.on_eq hb42 rfl rfl rfl (op_move (opt 0 rfl)))⟩, ⟨rfl, fun β => (GOk.on_eq hb43 rfl rfl rfl (op_move (opt 0 rfl)))⟩, ⟨rfl, fun β => (GOk.on_eq hb43 rfl rfl rfl (op_call Tryd.call21 (ref04_Log_Clash_oke hr39) ⟨(opt 0 rfl), trivial⟩))⟩, ⟨rfl, fun β => (GOk.on_eq hb42 rfl rfl rfl (op_pick_f hb43 (opt 0 rfl) (opt 1 rfl)))⟩, ⟨rfl, fun β => (GOk.plain (op_pick_t hb42 (opt 0 rfl) (opt 1 rfl)) rfl)⟩, ⟨rfl, fun β => (GOk.plain (op_assign (opt 0 rfl)) rfl)⟩, trivial⟩
                    clear h
                    intro β a w h
                    change SatL c [.slot 12 (boolVP r39), .res (Log_e (.pointer none) r35.2.2), .res (RLog_e p9 r37.2.2)] a w at h
                    clear β
                    exact ⟨r39, hF, h.sub [0, 1, 2] (by rfl)⟩
                · replace hF := ff_of hb42 hF
                  refine region_do (n := 88) [.slot 75 100000 100000 (fun _ _ => (boolVP r38)),
      .slot 76 100000 100000 (fun _ _ => (boolVP r38)),
      .slot 77 100000 100000 (fun _ _ => (boolVP r35.2.1)),
      .slot 78 100000 100000 (fun _ _ => (boolVP r35.2.1)),
      .slot 79 100000 100000 (fun _ _ => (boolVP r35.2.1)),
      .slot 80 100000 100000 (fun _ _ => (eqVP undef)),
      .slot 81 100000 100000 (fun _ _ => (eqVP undef)),
      .slot 82 100000 100000 (fun _ _ => (eqVP undef)),
      .slot 83 100000 100000 (fun _ _ => (eqVP undef)),
      .slot 84 100000 100000 (fun _ _ => (eqVP undef)),
      .slot 85 100000 100000 (fun _ _ => (eqVP undef)),
      .slot 86 100000 100000 (fun _ _ => (eqVP undef)),
      .slot 87 100000 100000 (fun _ _ => (boolVP false)),
      .slot 12 100000 100000 (fun _ _ => (boolVP false))] [0, 1, 2, 3, 4, 5, 6, 7, 8, 9, 10, 11, 12, 13] [⟨[], [], [8], [], some 75⟩, ⟨[8], [], [9], [0], some 76⟩, ⟨[9, 3], [], [10], [0, 1], some 77⟩, ⟨[9, 10], [], [11], [0, 1, 2], some 78⟩, ⟨[11], [], [12], [0, 1, 2, 3], some 79⟩, ⟨[12], [], [13], [0, 1, 2, 3, 4], some 80⟩, ⟨[12], [], [14], [0, 1, 2, 3, 4, 5], some 81⟩, ⟨[12], [], [15], [0, 1, 2, 3, 4, 5, 6], some 82⟩, ⟨[12], [], [16], [0, 1, 2, 3, 4, 5, 6, 7], some 83⟩, ⟨[16], [], [17], [0, 1, 2, 3, 4, 5, 6, 7, 8], some 84⟩, ⟨[16], [], [18], [0, 1, 2, 3, 4, 5, 6, 7, 8, 9], some 85⟩, ⟨[12], [], [19], [0, 1, 2, 3, 4, 5, 6, 7, 8, 9, 10], some 86⟩, ⟨[12], [], [20], [0, 1, 2, 3, 4, 5, 6, 7, 8, 9, 10, 11], some 87⟩, ⟨[20], [], [21], [0, 1, 2, 3, 4, 5, 6, 7, 8, 9, 10, 11, 12], some 12⟩] [21, 5, 7] mixed hn hG h (by kernel_rfl) ?_ ?_
                  · exact ⟨⟨rfl, fun β => (GOk.plain (op_call Tryd.call24 (law05_awake_ok hr38) trivial) rfl)⟩, ⟨rfl, fun β => (GOk.plain (op_move (opt 0 rfl)) rfl)⟩, ⟨rfl, fun β => (GOk.on_eq hb41 rfl rfl rfl (op_move (opt 0 rfl)))⟩, ⟨rfl, fun β => (GOk.plain (op_pick_t hb41 (opt 0 rfl) (opt 1 rfl)) rfl)⟩, ⟨rfl, fun β => (GOk.plain (op_move (opt 0 rfl)) rfl)⟩, ⟨rfl, fun β => (GOk.off_v (want := true) hb42 rfl rfl rfl rfl)⟩, ⟨rfl, fun β => (GOk.off_v (want := true) hb42 rfl rfl rfl rfl)⟩, ⟨rfl, fun β => (GOk.off_v (want := true) hb42 rfl rfl rfl rfl)⟩, ⟨rfl, fun β => (GOk.off_v (want := true) hb42 rfl rfl rfl rfl)⟩, ⟨rfl, fun β => (GOk.off_u rfl rfl rfl rfl)⟩, ⟨rfl, fun β => (GOk.off_u rfl rfl rfl rfl)⟩, ⟨rfl, fun β => (GOk.off_v (want := true) hb42 rfl rfl rfl rfl)⟩, ⟨rfl, fun β => (GOk.plain (op_pick_f hb42 (opt 0 rfl) (opc (bc _))) rfl)⟩, ⟨rfl, fun β => (GOk.plain (op_assign (opt 0 rfl)) rfl)⟩, trivial⟩
                  clear h
                  intro β a w h
                  change SatL c [.slot 12 (boolVP false), .res (Log_e (.pointer none) r35.2.2), .res (RLog_e p9 r37.2.2)] a w at h
                  clear β
                  exact ⟨false, hF, h.sub [0, 1, 2] (by rfl)⟩
              · replace hF := ff_of hb41 hF
                refine region_do (n := 88) [.slot 75 100000 100000 (fun _ _ => (boolVP r38)),
      .slot 76 100000 100000 (fun _ _ => (boolVP r38)),
      .slot 77 100000 100000 (fun _ _ => (eqVP undef)),
      .slot 78 100000 100000 (fun _ _ => (boolVP false)),
      .slot 79 100000 100000 (fun _ _ => (boolVP false)),
      .slot 80 100000 100000 (fun _ _ => (eqVP undef)),
      .slot 81 100000 100000 (fun _ _ => (eqVP undef)),
      .slot 82 100000 100000 (fun _ _ => (eqVP undef)),
      .slot 83 100000 100000 (fun _ _ => (eqVP undef)),
      .slot 84 100000 100000 (fun _ _ => (eqVP undef)),
      .slot 85 100000 100000 (fun _ _ => (eqVP undef)),
      .slot 86 100000 100000 (fun _ _ => (eqVP undef)),
      .slot 87 100000 100000 (fun _ _ => (boolVP false)),
      .slot 12 100000 100000 (fun _ _ => (boolVP false))] [0, 1, 2, 3, 4, 5, 6, 7, 8, 9, 10, 11, 12, 13] [⟨[], [], [8], [], some 75⟩, ⟨[8], [], [9], [0], some 76⟩, ⟨[9], [], [10], [0, 1], some 77⟩, ⟨[9], [], [11], [0, 1, 2], some 78⟩, ⟨[11], [], [12], [0, 1, 2, 3], some 79⟩, ⟨[12], [], [13], [0, 1, 2, 3, 4], some 80⟩, ⟨[12], [], [14], [0, 1, 2, 3, 4, 5], some 81⟩, ⟨[12], [], [15], [0, 1, 2, 3, 4, 5, 6], some 82⟩, ⟨[12], [], [16], [0, 1, 2, 3, 4, 5, 6, 7], some 83⟩, ⟨[16], [], [17], [0, 1, 2, 3, 4, 5, 6, 7, 8], some 84⟩, ⟨[16], [], [18], [0, 1, 2, 3, 4, 5, 6, 7, 8, 9], some 85⟩, ⟨[12], [], [19], [0, 1, 2, 3, 4, 5, 6, 7, 8, 9, 10], some 86⟩, ⟨[12], [], [20], [0, 1, 2, 3, 4, 5, 6, 7, 8, 9, 10, 11], some 87⟩, ⟨[20], [], [21], [0, 1, 2, 3, 4, 5, 6, 7, 8, 9, 10, 11, 12], some 12⟩] [21, 5, 7] mixed hn hG h (by kernel_rfl) ?_ ?_
                · exact ⟨⟨rfl, fun β => (GOk.plain (op_call Tryd.call24 (law05_awake_ok hr38) trivial) rfl)⟩, ⟨rfl, fun β => (GOk.plain (op_move (opt 0 rfl)) rfl)⟩, ⟨rfl, fun β => (GOk.off_v (want := true) hb41 rfl rfl rfl rfl)⟩, ⟨rfl, fun β => (GOk.plain (op_pick_f hb41 (opt 0 rfl) (opc (bc _))) rfl)⟩, ⟨rfl, fun β => (GOk.plain (op_move (opt 0 rfl)) rfl)⟩, ⟨rfl, fun β => (GOk.off_v (want := true) rfl rfl rfl rfl rfl)⟩, ⟨rfl, fun β => (GOk.off_v (want := true) rfl rfl rfl rfl rfl)⟩, ⟨rfl, fun β => (GOk.off_v (want := true) rfl rfl rfl rfl rfl)⟩, ⟨rfl, fun β => (GOk.off_v (want := true) rfl rfl rfl rfl rfl)⟩, ⟨rfl, fun β => (GOk.off_u rfl rfl rfl rfl)⟩, ⟨rfl, fun β => (GOk.off_u rfl rfl rfl rfl)⟩, ⟨rfl, fun β => (GOk.off_v (want := true) rfl rfl rfl rfl rfl)⟩, ⟨rfl, fun β => (GOk.plain (op_pick_f rfl (opt 0 rfl) (opc (bc _))) rfl)⟩, ⟨rfl, fun β => (GOk.plain (op_assign (opt 0 rfl)) rfl)⟩, trivial⟩
                clear h
                intro β a w h
                change SatL c [.slot 12 (boolVP false), .res (Log_e (.pointer none) r35.2.2), .res (RLog_e p9 r37.2.2)] a w at h
                clear β
                exact ⟨false, hF, h.sub [0, 1, 2] (by rfl)⟩
            · clear h hF
              rintro a w ⟨x40, hF, h⟩
              unfold law05_LamportTurns.j1 at hF
              show Code.wp Tryd.prog _ _ a w
              refine wp_ret ?_
              obtain rfl := Option.some.inj hF
              exact ⟨.inl rfl, ret1 h Tryd.results8 (r_tmp 0 rfl) [] [] rfl rfl rfl⟩
      · replace hF := ff_of hb16 hF
        replace h := h.sub [0, 1, 2, 3, 4, 5, 6, 7, 9, 10, 11, 12, 13, 14, 15] (by rfl)
        change SatL c [.slot 7 (lpVP p2 0), .slot 8 (lpVP p3 0), .slot 13 (eqVP p9), .slot 14 (eqVP (tupAt 0 p11)), .slot 15 (eqVP (tupAt 1 p11)), .slot 16 (lpVP p13 0), .slot 17 (intVP .i64 (IntKind.wrap .i64 ((IntKind.wrap .u64 a_4).tmod 32))), .slot 18 (eqVP (tupAt 0 p11)), .res (lb p2 24 [bytesCk 32 a_1]), .res (lb p3 24 [bytesCk 32 a_2]), .res (own (tupAt 0 p11) 24 32 (dC 32) r10.1), .res (own (tupAt 1 p11) 24 32 (dC 32) r10.2.1), .res (Log_e (.pointer none) r10.2.2), .res (RLog_e p9 r12.2), .res (lb p13 24 [bytesCk 32 r12.1])] a w at h
        refine wp_skip ?_
        show Code.wp Tryd.prog _ _ a w
        refine wp_seq ?_
        refine wp_seq ?_
        refine region_do (n := 88) [.slot 47 100000 100000 (fun _ _ => (intVP .i64 0))] [0] [⟨[], [], [15], [], some 47⟩] [0, 1, 2, 3, 4, 5, 6, 7, 15, 8, 9, 10, 11, 12, 13, 14] mixed hn hG h (by kernel_rfl) ?_ ?_
        · exact ⟨⟨rfl, fun β => (GOk.plain (op_move (opc (ic (by decide)))) rfl)⟩, trivial⟩
        clear h
        intro β a w h
        change SatL c [.slot 7 (lpVP p2 0), .slot 8 (lpVP p3 0), .slot 13 (eqVP p9), .slot 14 (eqVP (tupAt 0 p11)), .slot 15 (eqVP (tupAt 1 p11)), .slot 16 (lpVP p13 0), .slot 17 (intVP .i64 (IntKind.wrap .i64 ((IntKind.wrap .u64 a_4).tmod 32))), .slot 18 (eqVP (tupAt 0 p11)), .slot 47 (intVP .i64 0), .res (lb p2 24 [bytesCk 32 a_1]), .res (lb p3 24 [bytesCk 32 a_2]), .res (own (tupAt 0 p11) 24 32 (dC 32) r10.1), .res (own (tupAt 1 p11) 24 32 (dC 32) r10.2.1), .res (Log_e (.pointer none) r10.2.2), .res (RLog_e p9 r12.2), .res (lb p13 24 [bytesCk 32 r12.1])] a w at h
        clear β
        show Code.wp Tryd.prog _ _ a w
        refine wp_block ?_
        obtain ⟨cr56, hl57, hF⟩ := bind_some hF
        refine wp_mono (wp_loopN (R := Bool) (S := Int × (List (List UInt8))) (fun s a w => SatL c [.slot 7 (lpVP p2 0), .slot 8 (lpVP p3 0), .slot 13 (eqVP p9), .slot 14 (eqVP (tupAt 0 p11)), .slot 15 (eqVP (tupAt 1 p11)), .slot 16 (lpVP p13 0), .slot 17 (intVP .i64 (IntKind.wrap .i64 ((IntKind.wrap .u64 a_4).tmod 32))), .slot 18 (eqVP (tupAt 0 p11)), .slot 47 (intVP .i64 s.1), .res (lb p2 24 [bytesCk 32 a_1]), .res (lb p3 24 [bytesCk 32 a_2]), .res (own (tupAt 0 p11) 24 32 (dC 32) s.2), .res (own (tupAt 1 p11) 24 32 (dC 32) r10.2.1), .res (Log_e (.pointer none) r10.2.2), .res (RLog_e p9 r12.2), .res (lb p13 24 [bytesCk 32 r12.1])] a w) (fun res e a w => match res with | .next s => e = .exit 0 ∧ SatL c [.slot 7 (lpVP p2 0), .slot 13 (eqVP p9), .slot 14 (eqVP (tupAt 0 p11)), .slot 15 (eqVP (tupAt 1 p11)), .slot 16 (lpVP p13 0), .res (lb p2 24 [bytesCk 32 a_1]), .res (own (tupAt 0 p11) 24 32 (dC 32) s.2), .res (own (tupAt 1 p11) 24 32 (dC 32) r10.2.1), .res (Log_e (.pointer none) r10.2.2), .res (RLog_e p9 r12.2), .res (lb p13 24 [bytesCk 32 r12.1])] a w | .ret r => e = .ret ∧ RetOk Tryd.prog Tryd.f8 c (boolVP r) (fun _ => []) a w) ?_ _ (0, r10.1) _ _ _ (h.sub [0, 1, 2, 3, 4, 5, 6, 7, 8, 9, 10, 11, 12, 13, 14, 15] (by rfl)) hl57) ?_
        · clear hl57 hF h
          intro s a w o h hF
          obtain ⟨x46, x47⟩ := s
          change law05_LamportTurns.b2 a_2 a_4 x46 x47 = some o at hF
          unfold law05_LamportTurns.b2 at hF
          change SatL c [.slot 7 (lpVP p2 0), .slot 8 (lpVP p3 0), .slot 13 (eqVP p9), .slot 14 (eqVP (tupAt 0 p11)), .slot 15 (eqVP (tupAt 1 p11)), .slot 16 (lpVP p13 0), .slot 17 (intVP .i64 (IntKind.wrap .i64 ((IntKind.wrap .u64 a_4).tmod 32))), .slot 18 (eqVP (tupAt 0 p11)), .slot 47 (intVP .i64 x46), .res (lb p2 24 [bytesCk 32 a_1]), .res (lb p3 24 [bytesCk 32 a_2]), .res (own (tupAt 0 p11) 24 32 (dC 32) x47), .res (own (tupAt 1 p11) 24 32 (dC 32) r10.2.1), .res (Log_e (.pointer none) r10.2.2), .res (RLog_e p9 r12.2), .res (lb p13 24 [bytesCk 32 r12.1])] a w at h
          refine wp_seq ?_
          refine region_do (n := 88) [.slot 48 100000 100000 (fun _ _ => (boolVP (decide (x46 < (32 : Int)))))] [0] [⟨[8], [], [16], [], some 48⟩] [0, 1, 2, 3, 4, 5, 6, 7, 8, 16, 9, 10, 11, 12, 13, 14, 15] mixed hn hG h (by kernel_rfl) ?_ ?_
          · exact ⟨⟨rfl, fun β => (GOk.plain (op_bin bin_lss (opt 0 rfl) (opc (ic (by decide)))) rfl)⟩, trivial⟩
          clear h
          intro β a w h
          change SatL c [.slot 7 (lpVP p2 0), .slot 8 (lpVP p3 0), .slot 13 (eqVP p9), .slot 14 (eqVP (tupAt 0 p11)), .slot 15 (eqVP (tupAt 1 p11)), .slot 16 (lpVP p13 0), .slot 17 (intVP .i64 (IntKind.wrap .i64 ((IntKind.wrap .u64 a_4).tmod 32))), .slot 18 (eqVP (tupAt 0 p11)), .slot 47 (intVP .i64 x46), .slot 48 (boolVP (decide (x46 < (32 : Int)))), .res (lb p2 24 [bytesCk 32 a_1]), .res (lb p3 24 [bytesCk 32 a_2]), .res (own (tupAt 0 p11) 24 32 (dC 32) x47), .res (own (tupAt 1 p11) 24 32 (dC 32) r10.2.1), .res (Log_e (.pointer none) r10.2.2), .res (RLog_e p9 r12.2), .res (lb p13 24 [bytesCk 32 r12.1])] a w at h
          clear β
          show Code.wp Tryd.prog _ _ a w
          refine wp_seq ?_
          refine cond_L h 9 rfl (fun hb53 => ?_) (fun hb53 => ?_)
          · replace hF := tt_of hb53 hF
            replace h := h.sub [0, 1, 2, 3, 4, 5, 6, 7, 8, 10, 11, 12, 13, 14, 15, 16] (by rfl)
            change SatL c [.slot 7 (lpVP p2 0), .slot 8 (lpVP p3 0), .slot 13 (eqVP p9), .slot 14 (eqVP (tupAt 0 p11)), .slot 15 (eqVP (tupAt 1 p11)), .slot 16 (lpVP p13 0), .slot 17 (intVP .i64 (IntKind.wrap .i64 ((IntKind.wrap .u64 a_4).tmod 32))), .slot 18 (eqVP (tupAt 0 p11)), .slot 47 (intVP .i64 x46), .res (lb p2 24 [bytesCk 32 a_1]), .res (lb p3 24 [bytesCk 32 a_2]), .res (own (tupAt 0 p11) 24 32 (dC 32) x47), .res (own (tupAt 1 p11) 24 32 (dC 32) r10.2.1), .res (Log_e (.pointer none) r10.2.2), .res (RLog_e p9 r12.2), .res (lb p13 24 [bytesCk 32 r12.1])] a w at h
            refine wp_skip ?_
            show Code.wp Tryd.prog _ _ a w
            refine wp_seq ?_
            refine wp_block ?_
            refine wp_seq ?_
            refine region_do (n := 88) [.slot 49 100000 100000 (fun _ _ => (intVP .i64 x46)),
      .slot 19 100000 100000 (fun _ _ => (intVP .i64 x46))] [0, 1] [⟨[8], [], [16], [], some 49⟩, ⟨[16], [], [17], [0], some 19⟩] [0, 1, 2, 3, 4, 5, 6, 7, 17, 8, 9, 10, 11, 12, 13, 14, 15] mixed hn hG h (by kernel_rfl) ?_ ?_
            · exact ⟨⟨rfl, fun β => (GOk.plain (op_move (opt 0 rfl)) rfl)⟩, ⟨rfl, fun β => (GOk.plain (op_assign (opt 0 rfl)) rfl)⟩, trivial⟩
            clear h
            intro β a w h
            change SatL c [.slot 7 (lpVP p2 0), .slot 8 (lpVP p3 0), .slot 13 (eqVP p9), .slot 14 (eqVP (tupAt 0 p11)), .slot 15 (eqVP (tupAt 1 p11)), .slot 16 (lpVP p13 0), .slot 17 (intVP .i64 (IntKind.wrap .i64 ((IntKind.wrap .u64 a_4).tmod 32))), .slot 18 (eqVP (tupAt 0 p11)), .slot 19 (intVP .i64 x46), .slot 47 (intVP .i64 x46), .res (lb p2 24 [bytesCk 32 a_1]), .res (lb p3 24 [bytesCk 32 a_2]), .res (own (tupAt 0 p11) 24 32 (dC 32) x47), .res (own (tupAt 1 p11) 24 32 (dC 32) r10.2.1), .res (Log_e (.pointer none) r10.2.2), .res (RLog_e p9 r12.2), .res (lb p13 24 [bytesCk 32 r12.1])] a w at h
            clear β
            show Code.wp Tryd.prog _ _ a w
            obtain ⟨hv54, hF⟩ := ite_some hF
            obtain ⟨hv55, hF⟩ := ite_some hF
            refine region_do (n := 88) [.slot 50 100000 100000 (fun _ _ => (eqVP (tupAt 0 p11))),
      .slot 51 100000 100000 (fun _ _ => (intVP .i64 (IntKind.wrap .i64 ((IntKind.wrap .u64 a_4).tmod 32)))),
      .slot 52 100000 100000 (fun _ _ => (intVP .i64 x46)),
      .slot 53 100000 100000 (fun _ _ => (eapVP (tupAt 0 p11) ((IntKind.wrap .i64 ((IntKind.wrap .u64 a_4).tmod 32)).toNat * 32))),
      .slot 54 100000 100000 (fun _ _ => (eapVP (tupAt 0 p11) ((IntKind.wrap .i64 ((IntKind.wrap .u64 a_4).tmod 32)).toNat * 32 + x46.toNat * 1))),
      .slot 55 100000 100000 (fun _ _ => (intVP .u8 (((x47.getD (IntKind.wrap .i64 ((IntKind.wrap .u64 a_4).tmod 32)).toNat default).getD x46.toNat 0).toNat))),
      .slot 56 100000 100000 (fun _ _ => (intVP .i64 x46)),
      .slot 57 100000 100000 (fun _ _ => (lpVP p3 (0 + x46.toNat * 1))),
      .slot 58 100000 100000 (fun _ _ => (intVP .u8 ((a_2.getD x46.toNat 0).toNat))),
      .slot 59 100000 100000 (fun _ _ => (intVP .u8 (bits .xor .u8 (((x47.getD (IntKind.wrap .i64 ((IntKind.wrap .u64 a_4).tmod 32)).toNat default).getD x46.toNat 0).toNat) ((a_2.getD x46.toNat 0).toNat)))),
      .slot 60 100000 100000 (fun _ _ => (eapVP (tupAt 0 p11) ((IntKind.wrap .i64 ((IntKind.wrap .u64 a_4).tmod 32)).toNat * 32))),
      .slot 61 100000 100000 (fun _ _ => (eapVP (tupAt 0 p11) ((IntKind.wrap .i64 ((IntKind.wrap .u64 a_4).tmod 32)).toNat * 32 + x46.toNat * 1))),
      .res 100000 100000 (fun _ _ => (own (tupAt 0 p11) 24 32 (dC 32) (x47.set (IntKind.wrap .i64 ((IntKind.wrap .u64 a_4).tmod 32)).toNat ((x47.getD (IntKind.wrap .i64 ((IntKind.wrap .u64 a_4).tmod 32)).toNat default).set x46.toNat (u8of (bits .xor .u8 (((x47.getD (IntKind.wrap .i64 ((IntKind.wrap .u64 a_4).tmod 32)).toNat default).getD x46.toNat 0).toNat) ((a_2.getD x46.toNat 0).toNat)))))))] [0, 1, 2, 3, 4, 5, 6, 7, 8, 9, 10, 11, 12] [⟨[7], [], [17], [], some 50⟩, ⟨[6], [], [18], [], some 51⟩, ⟨[8], [], [19], [], some 52⟩, ⟨[17, 12, 18], [], [20], [0, 1], some 53⟩, ⟨[20, 19], [], [21], [0, 1, 2, 3], some 54⟩, ⟨[12, 21], [], [22], [0, 1, 2, 3, 4], some 55⟩, ⟨[8], [], [23], [], some 56⟩, ⟨[1, 23], [], [24], [6], some 57⟩, ⟨[24, 11], [], [25], [6, 7], some 58⟩, ⟨[22, 25], [], [26], [0, 1, 2, 3, 4, 5, 6, 7, 8], some 59⟩, ⟨[17, 12, 18], [], [27], [0, 1], some 60⟩, ⟨[27, 19], [], [28], [0, 1, 2, 3, 4, 5, 6, 7, 8, 9, 10], some 61⟩, ⟨[28, 26], [12], [29], [0, 1, 2, 3, 4, 5, 6, 7, 8, 9, 10, 11], none⟩] [0, 1, 2, 3, 4, 5, 6, 7, 9, 10, 11, 29, 13, 14, 15, 16] mixed hn hG h (by kernel_rfl) ?_ ?_
            · exact ⟨⟨rfl, fun β => (GOk.plain (op_move (opt 0 rfl)) rfl)⟩, ⟨rfl, fun β => (GOk.plain (op_move (opt 0 rfl)) rfl)⟩, ⟨rfl, fun β => (GOk.plain (op_move (opt 0 rfl)) rfl)⟩, ⟨rfl, fun β => (GOk.plain (op_indexAddr_own 0 1 Tryd.underlying46 Tryd.sizeOf24 rfl rfl (opt 2 rfl) hv54) rfl)⟩, ⟨rfl, fun β => (GOk.plain (op_indexAddr_ownE Tryd.underlying24 Tryd.sizeOf5 (opt 0 rfl) (opt 1 rfl) hv55) rfl)⟩, ⟨rfl, fun β => (GOk.plain (op_load_ownB (i := IntKind.wrap .i64 ((IntKind.wrap .u64 a_4).tmod 32)) (m := x46) 0 Tryd.isAgg5 (opt 1 rfl) rfl rfl hv54 hv55) rfl)⟩, ⟨rfl, fun β => (GOk.plain (op_move (opt 0 rfl)) rfl)⟩, ⟨rfl, fun β => (GOk.plain (op_indexAddr_lb Tryd.underlying24 Tryd.sizeOf5 (opt 0 rfl) (opt 1 rfl) hv55) rfl)⟩, ⟨rfl, fun β => (GOk.plain (op_load_lbB (i := x46) [] [] 1 Tryd.isAgg5 (opt 0 rfl) rfl rfl hv55) rfl)⟩, ⟨rfl, fun β => (GOk.plain (op_bin bin_xor (opt 0 rfl) (opt 1 rfl)) rfl)⟩, ⟨rfl, fun β => (GOk.plain (op_indexAddr_own 0 1 Tryd.underlying46 Tryd.sizeOf24 rfl rfl (opt 2 rfl) hv54) rfl)⟩, ⟨rfl, fun β => (GOk.plain (op_indexAddr_ownE Tryd.underlying24 Tryd.sizeOf5 (opt 0 rfl) (opt 1 rfl) hv55) rfl)⟩, ⟨rfl, fun β => (GOk.plain (op_store_ownB (i := IntKind.wrap .i64 ((IntKind.wrap .u64 a_4).tmod 32)) (m := x46) Tryd.sizeOf5 (opt 0 rfl) (opt 1 rfl) rfl hv54 hv55) rfl)⟩, trivial⟩
            clear h
            intro β a w h
            change SatL c [.slot 7 (lpVP p2 0), .slot 8 (lpVP p3 0), .slot 13 (eqVP p9), .slot 14 (eqVP (tupAt 0 p11)), .slot 15 (eqVP (tupAt 1 p11)), .slot 16 (lpVP p13 0), .slot 17 (intVP .i64 (IntKind.wrap .i64 ((IntKind.wrap .u64 a_4).tmod 32))), .slot 18 (eqVP (tupAt 0 p11)), .slot 47 (intVP .i64 x46), .res (lb p2 24 [bytesCk 32 a_1]), .res (lb p3 24 [bytesCk 32 a_2]), .res (own (tupAt 0 p11) 24 32 (dC 32) (x47.set (IntKind.wrap .i64 ((IntKind.wrap .u64 a_4).tmod 32)).toNat ((x47.getD (IntKind.wrap .i64 ((IntKind.wrap .u64 a_4).tmod 32)).toNat default).set x46.toNat (u8of (bits .xor .u8 (((x47.getD (IntKind.wrap .i64 ((IntKind.wrap .u64 a_4).tmod 32)).toNat default).getD x46.toNat 0).toNat) ((a_2.getD x46.toNat 0).toNat)))))), .res (own (tupAt 1 p11) 24 32 (dC 32) r10.2.1), .res (Log_e (.pointer none) r10.2.2), .res (RLog_e p9 r12.2), .res (lb p13 24 [bytesCk 32 r12.1])] a w at h
            clear β
            show Code.wp Tryd.prog _ _ a w
            refine region_do (n := 88) [.slot 62 100000 100000 (fun _ _ => (intVP .i64 (IntKind.wrap .i64 (x46 + 1)))),
      .slot 47 100000 100000 (fun _ _ => (intVP .i64 (IntKind.wrap .i64 (x46 + 1))))] [0, 1] [⟨[8], [], [16], [], some 62⟩, ⟨[16], [8], [17], [0], some 47⟩] [0, 1, 2, 3, 4, 5, 6, 7, 17, 9, 10, 11, 12, 13, 14, 15] mixed hn hG h (by kernel_rfl) ?_ ?_
            · exact ⟨⟨rfl, fun β => (GOk.plain (op_bin bin_add (opt 0 rfl) (opc (ic (by decide)))) rfl)⟩, ⟨rfl, fun β => (GOk.drop _ (GOk.plain (op_move (opt 0 rfl)) rfl))⟩, trivial⟩
            clear h
            intro β a w h
            change SatL c [.slot 7 (lpVP p2 0), .slot 8 (lpVP p3 0), .slot 13 (eqVP p9), .slot 14 (eqVP (tupAt 0 p11)), .slot 15 (eqVP (tupAt 1 p11)), .slot 16 (lpVP p13 0), .slot 17 (intVP .i64 (IntKind.wrap .i64 ((IntKind.wrap .u64 a_4).tmod 32))), .slot 18 (eqVP (tupAt 0 p11)), .slot 47 (intVP .i64 (IntKind.wrap .i64 (x46 + 1))), .res (lb p2 24 [bytesCk 32 a_1]), .res (lb p3 24 [bytesCk 32 a_2]), .res (own (tupAt 0 p11) 24 32 (dC 32) (x47.set (IntKind.wrap .i64 ((IntKind.wrap .u64 a_4).tmod 32)).toNat ((x47.getD (IntKind.wrap .i64 ((IntKind.wrap .u64 a_4).tmod 32)).toNat default).set x46.toNat (u8of (bits .xor .u8 (((x47.getD (IntKind.wrap .i64 ((IntKind.wrap .u64 a_4).tmod 32)).toNat default).getD x46.toNat 0).toNat) ((a_2.getD x46.toNat 0).toNat)))))), .res (own (tupAt 1 p11) 24 32 (dC 32) r10.2.1), .res (Log_e (.pointer none) r10.2.2), .res (RLog_e p9 r12.2), .res (lb p13 24 [bytesCk 32 r12.1])] a w at h
            clear β
            obtain rfl := Option.some.inj hF
            exact ⟨rfl, h.sub [0, 1, 2, 3, 4, 5, 6, 7, 8, 9, 10, 11, 12, 13, 14, 15] (by rfl)⟩
          · replace hF := ff_of hb53 hF
            replace h := h.sub [0, 1, 2, 3, 4, 5, 6, 7, 8, 10, 11, 12, 13, 14, 15, 16] (by rfl)
            change SatL c [.slot 7 (lpVP p2 0), .slot 8 (lpVP p3 0), .slot 13 (eqVP p9), .slot 14 (eqVP (tupAt 0 p11)), .slot 15 (eqVP (tupAt 1 p11)), .slot 16 (lpVP p13 0), .slot 17 (intVP .i64 (IntKind.wrap .i64 ((IntKind.wrap .u64 a_4).tmod 32))), .slot 18 (eqVP (tupAt 0 p11)), .slot 47 (intVP .i64 x46), .res (lb p2 24 [bytesCk 32 a_1]), .res (lb p3 24 [bytesCk 32 a_2]), .res (own (tupAt 0 p11) 24 32 (dC 32) x47), .res (own (tupAt 1 p11) 24 32 (dC 32) r10.2.1), .res (Log_e (.pointer none) r10.2.2), .res (RLog_e p9 r12.2), .res (lb p13 24 [bytesCk 32 r12.1])] a w at h
            refine wp_exit ?_
            obtain rfl := Option.some.inj hF
            exact ⟨exit_ne _, rfl, h.sub [0, 2, 3, 4, 5, 9, 11, 12, 13, 14, 15] (by rfl)⟩
        · clear hl57
          intro e a w hq
          cases cr56 with
          | ret r58 =>
            obtain ⟨rfl, hq⟩ := hq
            obtain rfl := Option.some.inj hF
            exact ⟨.inl rfl, hq⟩
          | next s59 =>
            obtain ⟨y60, y61⟩ := s59
            obtain ⟨rfl, h⟩ := hq
            change SatL c [.slot 7 (lpVP p2 0), .slot 13 (eqVP p9), .slot 14 (eqVP (tupAt 0 p11)), .slot 15 (eqVP (tupAt 1 p11)), .slot 16 (lpVP p13 0), .res (lb p2 24 [bytesCk 32 a_1]), .res (own (tupAt 0 p11) 24 32 (dC 32) y61), .res (own (tupAt 1 p11) 24 32 (dC 32) r10.2.1), .res (Log_e (.pointer none) r10.2.2), .res (RLog_e p9 r12.2), .res (lb p13 24 [bytesCk 32 r12.1])] a w at h
            refine inBlock_at ?_
            show Code.wp Tryd.prog _ _ a w
            refine wp_seq ?_
            replace h := h.ownacc 6 rfl
            change SatL c [.slot 7 (lpVP p2 0), .slot 13 (eqVP p9), .slot 14 (eqVP (tupAt 0 p11)), .slot 15 (eqVP (tupAt 1 p11)), .slot 16 (lpVP p13 0), .res (lb p2 24 [bytesCk 32 a_1]), .res (acc (tupAt 0 p11) 24 32 (dC 32) y61), .res (own (tupAt 1 p11) 24 32 (dC 32) r10.2.1), .res (Log_e (.pointer none) r10.2.2), .res (RLog_e p9 r12.2), .res (lb p13 24 [bytesCk 32 r12.1])] a w at h
            replace h := h.ownacc 7 rfl
            change SatL c [.slot 7 (lpVP p2 0), .slot 13 (eqVP p9), .slot 14 (eqVP (tupAt 0 p11)), .slot 15 (eqVP (tupAt 1 p11)), .slot 16 (lpVP p13 0), .res (lb p2 24 [bytesCk 32 a_1]), .res (acc (tupAt 0 p11) 24 32 (dC 32) y61), .res (acc (tupAt 1 p11) 24 32 (dC 32) r10.2.1), .res (Log_e (.pointer none) r10.2.2), .res (RLog_e p9 r12.2), .res (lb p13 24 [bytesCk 32 r12.1])] a w at h
            obtain ⟨r62, hr62, hF⟩ := bind_some hF
            refine region_do (n := 88) [.slot 64 100000 100000 (fun _ _ => (aggVP [bytesCk 32 a_1])),
      .slot 65 100000 100000 (fun _ _ => (eqVP (tupAt 0 p11))),
      .slot 66 100000 100000 (fun _ _ => (eqVP (tupAt 1 p11))),
      .slot 67 100000 100000 (fun _ _ => (tupVP [(aggVP [bytesCk 32 r62.1]), (boolVP r62.2.1)])),
      .res 100000 100000 (fun _ _ => (Log_e (.pointer none) r62.2.2)),
      .slot 63 100000 100000 (fun _ _ => (tupVP [(aggVP [bytesCk 32 r62.1]), (boolVP r62.2.1)])),
      .slot 68 100000 100000 (fun _ _ => (aggVP [bytesCk 32 r62.1])),
      .slot 69 100000 100000 (fun _ _ => (boolVP r62.2.1)),
      .slot 20 7 100000 (fun v1_ _ => (lpVP v1_ 0)),
      .res 7 100000 (fun v1_ _ => (lb (v1_) 24 [bytesCk 32 (List.replicate 32 0)])),
      .res 7 100000 (fun v1_ _ => (lb (v1_) 24 [bytesCk 32 r62.1])),
      .slot 21 100000 100000 (fun _ _ => (boolVP r62.2.1))] [0, 1, 2, 3, 3, 4, 5, 6, 7, 7, 8, 9] [⟨[0, 5], [], [11], [], some 64⟩, ⟨[2], [], [12], [0], some 65⟩, ⟨[3], [], [13], [0, 1], some 66⟩, ⟨[11, 12, 6, 13, 7], [8], [14, 15], [0, 1, 2], some 67⟩, ⟨[14], [], [16], [0, 1, 2, 3], some 63⟩, ⟨[16], [], [17], [0, 1, 2, 3, 4], some 68⟩, ⟨[16], [], [18], [0, 1, 2, 3, 4, 5], some 69⟩, ⟨[], [], [19, 20], [0, 1, 2, 3, 4, 5, 6], some 20⟩, ⟨[19, 17], [20], [21], [0, 1, 2, 3, 4, 5, 6, 7], none⟩, ⟨[18], [], [22], [0, 1, 2, 3, 4, 5, 6, 7, 8], some 21⟩] [0, 1, 2, 3, 4, 19, 22, 5, 6, 7, 9, 10, 15, 21] mixed hn hG h (by kernel_rfl) ?_ ?_
            · exact ⟨⟨rfl, fun β => (GOk.plain (op_load_lb [] [bytesCk 32 a_1] [] 1 Tryd.isAgg24 Tryd.sizeOf24 (opt 0 rfl) rfl rfl rfl) rfl)⟩, ⟨rfl, fun β => (GOk.plain (op_move (opt 0 rfl)) rfl)⟩, ⟨rfl, fun β => (GOk.plain (op_move (opt 0 rfl)) rfl)⟩, ⟨rfl, fun β => (GOk.plain (op_call Tryd.call26 (lamport_Opened_ok hr62) ⟨(opc (ec _)), (opt 0 rfl), (opacc 1 2 rfl rfl), (opacc 3 4 rfl rfl), trivial⟩) rfl)⟩, ⟨rfl, fun β => (GOk.plain (op_move (opt 0 rfl)) rfl)⟩, ⟨rfl, fun β => (GOk.plain (op_extract (opt 0 rfl) rfl) rfl)⟩, ⟨rfl, fun β => (GOk.plain (op_extract (opt 0 rfl) rfl) rfl)⟩, ⟨rfl, fun β => (GOk.plain (op_alloc Tryd.zeroValue24 z24) rfl)⟩, ⟨rfl, fun β => (GOk.plain (op_store_lb [] [bytesCk 32 (List.replicate 32 0)] [] [bytesCk 32 r62.1] Tryd.sizeOf24 (opt 0 rfl) (opt 1 rfl) (cells_agg _) rfl rfl rfl) rfl)⟩, ⟨rfl, fun β => (GOk.plain (op_assign (opt 0 rfl)) rfl)⟩, trivial⟩
            clear h
            intro β a w h
            change SatL c [.slot 7 (lpVP p2 0), .slot 13 (eqVP p9), .slot 14 (eqVP (tupAt 0 p11)), .slot 15 (eqVP (tupAt 1 p11)), .slot 16 (lpVP p13 0), .slot 20 (lpVP (β 7) 0), .slot 21 (boolVP r62.2.1), .res (lb p2 24 [bytesCk 32 a_1]), .res (acc (tupAt 0 p11) 24 32 (dC 32) y61), .res (acc (tupAt 1 p11) 24 32 (dC 32) r10.2.1), .res (RLog_e p9 r12.2), .res (lb p13 24 [bytesCk 32 r12.1]), .res (Log_e (.pointer none) r62.2.2), .res (lb (β 7) 24 [bytesCk 32 r62.1])] a w at h
            generalize β 7 = p63 at h
            clear β
            show Code.wp Tryd.prog _ _ a w
            refine wp_seq ?_
            obtain ⟨r64, hr64, hF⟩ := bind_some hF
            refine region_do (n := 88) [.slot 70 100000 100000 (fun _ _ => (eqVP p9)),
      .slot 71 100000 100000 (fun _ _ => (aggVP [bytesCk 32 a_1])),
      .slot 72 100000 100000 (fun _ _ => (eqVP (tupAt 0 p11))),
      .slot 73 100000 100000 (fun _ _ => (eqVP (tupAt 1 p11))),
      .slot 74 100000 100000 (fun _ _ => (tupVP [(aggVP [bytesCk 32 r64.1]), (boolVP r64.2.1)])),
      .res 100000 100000 (fun _ _ => (RLog_e p9 r64.2.2))] [0, 1, 2, 3, 4, 4] [⟨[1], [], [14], [], some 70⟩, ⟨[0, 7], [], [15], [0], some 71⟩, ⟨[2], [], [16], [0, 1], some 72⟩, ⟨[3], [], [17], [0, 1, 2], some 73⟩, ⟨[14, 15, 16, 8, 17, 9], [10], [18, 19], [0, 1, 2, 3], some 74⟩] [1, 4, 5, 6, 11, 12, 13, 19] mixed hn hG h (by kernel_rfl) ?_ ?_
            · exact ⟨⟨rfl, fun β => (GOk.plain (op_move (opt 0 rfl)) rfl)⟩, ⟨rfl, fun β => (GOk.plain (op_load_lb [] [bytesCk 32 a_1] [] 1 Tryd.isAgg24 Tryd.sizeOf24 (opt 0 rfl) rfl rfl rfl) rfl)⟩, ⟨rfl, fun β => (GOk.plain (op_move (opt 0 rfl)) rfl)⟩, ⟨rfl, fun β => (GOk.plain (op_move (opt 0 rfl)) rfl)⟩, ⟨rfl, fun β => (GOk.plain (op_call Tryd.call30 (ref05_Opened_ok hr64) ⟨(opt 0 rfl), (opt 1 rfl), (opacc 2 3 rfl rfl), (opacc 4 5 rfl rfl), trivial⟩) rfl)⟩, trivial⟩
            clear h
            intro β a w h
            change SatL c [.slot 13 (eqVP p9), .slot 16 (lpVP p13 0), .slot 20 (lpVP p63 0), .slot 21 (boolVP r62.2.1), .res (lb p13 24 [bytesCk 32 r12.1]), .res (Log_e (.pointer none) r62.2.2), .res (lb p63 24 [bytesCk 32 r62.1]), .res (RLog_e p9 r64.2.2)] a w at h
            clear β
            show Code.wp Tryd.prog _ _ a w
            refine wp_seq ?_
            obtain ⟨r65, hr65, hF⟩ := bind_some hF
            refine wp_cut (fun a w => ∃ (x67 : Bool), law05_LamportTurns.j2 x67 = some r ∧ SatL c [.slot 12 (boolVP x67), .res (Log_e (.pointer none) r62.2.2), .res (RLog_e p9 r64.2.2)] a w) ?_ ?_
            · rcases Bool.eq_false_or_eq_true r65 with hb68 | hb68
              · replace hF := tt_of hb68 hF
                rcases Bool.eq_false_or_eq_true r62.2.1 with hb69 | hb69
                · replace hF := tt_of hb69 hF
                  rcases Bool.eq_false_or_eq_true (!decide (r62.1 = r12.1)) with hb70 | hb70
                  · replace hF := tt_of hb70 hF
                    refine region_do (n := 88) [.slot 75 100000 100000 (fun _ _ => (boolVP r65)),
      .slot 76 100000 100000 (fun _ _ => (boolVP r65)),
      .slot 77 100000 100000 (fun _ _ => (boolVP r62.2.1)),
      .slot 78 100000 100000 (fun _ _ => (boolVP r62.2.1)),
      .slot 79 100000 100000 (fun _ _ => (boolVP r62.2.1)),
      .slot 80 100000 100000 (fun _ _ => (aggVP [bytesCk 32 r62.1])),
      .slot 81 100000 100000 (fun _ _ => (aggVP [bytesCk 32 r12.1])),
      .slot 82 100000 100000 (fun _ _ => (boolVP (!decide (r62.1 = r12.1)))),
      .slot 83 100000 100000 (fun _ _ => (boolVP (!decide (r62.1 = r12.1)))),
      .slot 84 100000 100000 (fun _ _ => (eqVP undef)),
      .slot 85 100000 100000 (fun _ _ => (eqVP undef)),
      .slot 86 100000 100000 (fun _ _ => (boolVP true)),
      .slot 87 100000 100000 (fun _ _ => (boolVP true)),
      .slot 12 100000 100000 (fun _ _ => (boolVP true))] [0, 1, 2, 3, 4, 5, 6, 7, 8, 9, 10, 11, 12, 13] [⟨[], [], [8], [], some 75⟩, ⟨[8], [], [9], [0], some 76⟩, ⟨[9, 3], [], [10], [0, 1], some 77⟩, ⟨[9, 10], [], [11], [0, 1, 2], some 78⟩, ⟨[11], [], [12], [0, 1, 2, 3], some 79⟩, ⟨[12, 2, 6], [], [13], [0, 1, 2, 3, 4], some 80⟩, ⟨[12, 1, 4], [], [14], [0, 1, 2, 3, 4, 5], some 81⟩, ⟨[12, 13, 14], [], [15], [0, 1, 2, 3, 4, 5, 6], some 82⟩, ⟨[12, 15], [], [16], [0, 1, 2, 3, 4, 5, 6, 7], some 83⟩, ⟨[16], [], [17], [0, 1, 2, 3, 4, 5, 6, 7, 8], some 84⟩, ⟨[16], [], [18], [0, 1, 2, 3, 4, 5, 6, 7, 8, 9], some 85⟩, ⟨[12, 16], [], [19], [0, 1, 2, 3, 4, 5, 6, 7, 8, 9, 10], some 86⟩, ⟨[12, 19], [], [20], [0, 1, 2, 3, 4, 5, 6, 7, 8, 9, 10, 11], some 87⟩, ⟨[20], [], [21], [0, 1, 2, 3, 4, 5, 6, 7, 8, 9, 10, 11, 12], some 12⟩] [21, 5, 7] mixed hn hG h (by kernel_rfl) ?_ ?_
                    · exact ⟨⟨rfl, fun β => (GOk.plain (op_call Tryd.call24 (law05_awake_ok hr65) trivial) rfl)⟩, ⟨rfl, fun β => (GOk.plain (op_move (opt 0 rfl)) rfl)⟩, ⟨rfl, fun β => (GOk.on_eq hb68 rfl rfl rfl (op_move (opt 0 rfl)))⟩, ⟨rfl, fun β => (GOk.plain (op_pick_t hb68 (opt 0 rfl) (opt 1 rfl)) rfl)⟩, ⟨rfl, fun β => (GOk.plain (op_move (opt 0 rfl)) rfl)⟩, ⟨rfl, fun β => (GOk.on_eq hb69 rfl rfl rfl (op_load_lb [] [bytesCk 32 r62.1] [] 1 Tryd.isAgg24 Tryd.sizeOf24 (opt 0 rfl) rfl rfl rfl))⟩, ⟨rfl, fun β => (GOk.on_eq hb69 rfl rfl rfl (op_load_lb [] [bytesCk 32 r12.1] [] 1 Tryd.isAgg24 Tryd.sizeOf24 (opt 0 rfl) rfl rfl rfl))⟩, ⟨rfl, fun β => (GOk.on_eq hb69 rfl rfl rfl (op_bin (bin_aneq Tryd.underlying24 Tryd.underlying5 Tryd.type5 Tryd.sizeOf5 Tryd.isAgg5 Tryd.eqGuardType24) (opt 0 rfl) (opt 1 rfl)))⟩, ⟨rfl, fun β => (GOk.on_eq hb69 rfl rfl rfl (op_move (opt 0 rfl)))⟩, ⟨rfl, fun β => (GOk.off_v (want := false) hb70 rfl rfl rfl rfl)⟩, ⟨rfl, fun β => (GOk.off_v (want := false) hb70 rfl rfl rfl rfl)⟩, ⟨rfl, fun β => (GOk.on_eq hb69 rfl rfl rfl (op_pick_t hb70 (opt 0 rfl) (opc (bc _))))⟩, ⟨rfl, fun β => (GOk.plain (op_pick_t hb69 (opt 0 rfl) (opt 1 rfl)) rfl)⟩, ⟨rfl, fun β => (GOk.plain (op_assign (opt 0 rfl)) rfl)⟩, trivial⟩
                    clear h
                    intro β a w h
                    change SatL c [.slot 12 (boolVP true), .res (Log_e (.pointer none) r62.2.2), .res (RLog_e p9 r64.2.2)] a w at h
                    clear β
                    exact ⟨true, hF, h.sub [0, 1, 2] (by rfl)⟩
                  · replace hF := ff_of hb70 hF
                    obtain ⟨r66, hr66, hF⟩ := bind_some hF
                    refine region_do (n := 88) [.slot 75 100000 100000 (fun _ _ => (boolVP r65)),
      .slot 76 100000 100000 (fun _ _ => (boolVP r65)),
      .slot 77 100000 100000 (fun _ _ => (boolVP r62.2.1)),
      .slot 78 100000 100000 (fun _ _ => (boolVP r62.2.1)),
      .slot 79 100000 100000 (fun _ _ => (boolVP r62.2.1)),
      .slot 80 100000 100000 (fun _ _ => (aggVP [bytesCk 32 r62.1])),
      .slot 81 100000 100000 (fun _ _ => (aggVP [bytesCk 32 r12.1])),
      .slot 82 100000 100000 (fun _ _ => (boolVP (!decide (r62.1 = r12.1)))),
      .slot 83 100000 100000 (fun _ _ => (boolVP (!decide (r62.1 = r12.1)))),
      .slot 84 100000 100000 (fun _ _ => (eqVP p9)),
      .slot 85 100000 100000 (fun _ _ => (boolVP r66)),
      .res 100000 100000 (fun _ _ => (RLog_e p9 r64.2.2)),
      .slot 86 100000 100000 (fun _ _ => (boolVP r66)),
      .slot 87 100000 100000 (fun _ _ => (boolVP r66)),
      .slot 12 100000 100000 (fun _ _ => (boolVP r66))] [0, 1, 2, 3, 4, 5, 6, 7, 8, 9, 10, 10, 11, 12, 13] [⟨[], [], [8], [], some 75⟩, ⟨[8], [], [9], [0], some 76⟩, ⟨[9, 3], [], [10], [0, 1], some 77⟩, ⟨[9, 10], [], [11], [0, 1, 2], some 78⟩, ⟨[11], [], [12], [0, 1, 2, 3], some 79⟩, ⟨[12, 2, 6], [], [13], [0, 1, 2, 3, 4], some 80⟩, ⟨[12, 1, 4], [], [14], [0, 1, 2, 3, 4, 5], some 81⟩, ⟨[12, 13, 14], [], [15], [0, 1, 2, 3, 4, 5, 6], some 82⟩, ⟨[12, 15], [], [16], [0, 1, 2, 3, 4, 5, 6, 7], some 83⟩, ⟨[16, 0], [], [17], [0, 1, 2, 3, 4, 5, 6, 7, 8], some 84⟩, ⟨[16, 17], [7], [18, 19], [0, 1, 2, 3, 4, 5, 6, 7, 8, 9], some 85⟩, ⟨[12, 16, 18], [], [20], [0, 1, 2, 3, 4, 5, 6, 7, 8, 9, 10], some 86⟩, ⟨[12, 20], [], [21], [0, 1, 2, 3, 4, 5, 6, 7, 8, 9, 10, 11], some 87⟩, ⟨[21], [], [22], [0, 1, 2, 3, 4, 5, 6, 7, 8, 9, 10, 11, 12], some 12⟩] [22, 5, 19] mixed hn hG h (by kernel_rfl) ?_ ?_
                    · exact ⟨⟨rfl, fun β => (GOk.plain (op_call Tryd.call24 (law05_awake_ok hr65) trivial) rfl)⟩, ⟨rfl, fun β => (GOk.plain (op_move (opt 0 rfl)) rfl)⟩, ⟨rfl, fun β => (GOk.on_eq hb68 rfl rfl rfl (op_move (opt 0 rfl)))⟩, ⟨rfl, fun β => (GOk.plain (op_pick_t hb68 (opt 0 rfl) (opt 1 rfl)) rfl)⟩, ⟨rfl, fun β => (GOk.plain (op_move (opt 0 rfl)) rfl)⟩, ⟨rfl, fun β => (GOk.on_eq hb69 rfl rfl rfl (op_load_lb [] [bytesCk 32 r62.1] [] 1 Tryd.isAgg24 Tryd.sizeOf24 (opt 0 rfl) rfl rfl rfl))⟩, ⟨rfl, fun β => (GOk.on_eq hb69 rfl rfl rfl (op_load_lb [] [bytesCk 32 r12.1] [] 1 Tryd.isAgg24 Tryd.sizeOf24 (opt 0 rfl) rfl rfl rfl))⟩, ⟨rfl, fun β => (GOk.on_eq hb69 rfl rfl rfl (op_bin (bin_aneq Tryd.underlying24 Tryd.underlying5 Tryd.type5 Tryd.sizeOf5 Tryd.isAgg5 Tryd.eqGuardType24) (opt 0 rfl) (opt 1 rfl)))⟩, ⟨rfl, fun β => (GOk.on_eq hb69 rfl rfl rfl (op_move (opt 0 rfl)))⟩, ⟨rfl, fun β => (GOk.on_eq hb70 rfl rfl rfl (op_move (opt 0 rfl)))⟩, ⟨rfl, fun β => (GOk.on_eq hb70 rfl rfl rfl (op_call Tryd.call21 (ref04_Log_Clash_oke hr66) ⟨(opt 0 rfl), trivial⟩))⟩, ⟨rfl, fun β => (GOk.on_eq hb69 rfl rfl rfl (op_pick_f hb70 (opt 0 rfl) (opt 1 rfl)))⟩, ⟨rfl, fun β => (GOk.plain (op_pick_t hb69 (opt 0 rfl) (opt 1 rfl)) rfl)⟩, ⟨rfl, fun β => (GOk.plain (op_assign (opt 0 rfl)) rfl)⟩, trivial⟩
                    clear h
                    intro β a w h
                    change SatL c [.slot 12 (boolVP r66), .res (Log_e (.pointer none) r62.2.2), .res (RLog_e p9 r64.2.2)] a w at h
                    clear β
                    exact ⟨r66, hF, h.sub [0, 1, 2] (by rfl)⟩
                · replace hF := ff_of hb69 hF
                  refine region_do (n := 88) [.slot 75 100000 100000 (fun _ _ => (boolVP r65)),
      .slot 76 100000 100000 (fun _ _ => (boolVP r65)),
      .slot 77 100000 100000 (fun _ _ => (boolVP r62.2.1)),
      .slot 78 100000 100000 (fun _ _ => (boolVP r62.2.1)),
      .slot 79 100000 100000 (fun _ _ => (boolVP r62.2.1)),
      .slot 80 100000 100000 (fun _ _ => (eqVP undef)),
      .slot 81 100000 100000 (fun _ _ => (eqVP undef)),
      .slot 82 100000 100000 (fun _ _ => (eqVP undef)),
      .slot 83 100000 100000 (fun _ _ => (eqVP undef)),
      .slot 84 100000 100000 (fun _ _ => (eqVP undef)),
      .slot 85 100000 100000 (fun _ _ => (eqVP undef)),
      .slot 86 100000 100000 (fun _ _ => (eqVP undef)),
      .slot 87 100000 100000 (fun _ _ => (boolVP false)),
      .slot 12 100000 100000 (fun _ _ => (boolVP false))] [0, 1, 2, 3, 4, 5, 6, 7, 8, 9, 10, 11, 12, 13] [⟨[], [], [8], [], some 75⟩, ⟨[8], [], [9], [0], some 76⟩, ⟨[9, 3], [], [10], [0, 1], some 77⟩, ⟨[9, 10], [], [11], [0, 1, 2], some 78⟩, ⟨[11], [], [12], [0, 1, 2, 3], some 79⟩, ⟨[12], [], [13], [0, 1, 2, 3, 4], some 80⟩, ⟨[12], [], [14], [0, 1, 2, 3, 4, 5], some 81⟩, ⟨[12], [], [15], [0, 1, 2, 3, 4, 5, 6], some 82⟩, ⟨[12], [], [16], [0, 1, 2, 3, 4, 5, 6, 7], some 83⟩, ⟨[16], [], [17], [0, 1, 2, 3, 4, 5, 6, 7, 8], some 84⟩, ⟨[16], [], [18], [0, 1, 2, 3, 4, 5, 6, 7, 8, 9], some 85⟩, ⟨[12], [], [19], [0, 1, 2, 3, 4, 5, 6, 7, 8, 9, 10], some 86⟩, ⟨[12], [], [20], [0, 1, 2, 3, 4, 5, 6, 7, 8, 9, 10, 11], some 87⟩, ⟨[20], [], [21], [0, 1, 2, 3, 4, 5, 6, 7, 8, 9, 10, 11, 12], some 12⟩] [21, 5, 7] mixed hn hG h (by kernel_rfl) ?_ ?_
                  · exact ⟨⟨rfl, fun β => (GOk.plain (op_call Tryd.call24 (law05_awake_ok hr65) trivial) rfl)⟩, ⟨rfl, fun β => (GOk.plain (op_move (opt 0 rfl)) rfl)⟩, ⟨rfl, fun β => (GOk.on_eq hb68 rfl rfl rfl (op_move (opt 0 rfl)))⟩, ⟨rfl, fun β => (GOk.plain (op_pick_t hb68 (opt 0 rfl) (opt 1 rfl)) rfl)⟩, ⟨rfl, fun β => (GOk.plain (op_move (opt 0 rfl)) rfl)⟩, ⟨rfl, fun β => (GOk.off_v (want := true) hb69 rfl rfl rfl rfl)⟩, ⟨rfl, fun β => (GOk.off_v (want := true) hb69 rfl rfl rfl rfl)⟩, ⟨rfl, fun β => (GOk.off_v (want := true) hb69 rfl rfl rfl rfl)⟩, ⟨rfl, fun β => (GOk.off_v (want := true) hb69 rfl rfl rfl rfl)⟩, ⟨rfl, fun β => (GOk.off_u rfl rfl rfl rfl)⟩, ⟨rfl, fun β => (GOk.off_u rfl rfl rfl rfl)⟩, ⟨rfl, fun β => (GOk.off_v (want := true) hb69 rfl rfl rfl rfl)⟩, ⟨rfl, fun β => (GOk.plain (op_pick_f hb69 (opt 0 rfl) (opc (bc _))) rfl)⟩, ⟨rfl, fun β => (GOk.plain (op_assign (opt 0 rfl)) rfl)⟩, trivial⟩
                  clear h
                  intro β a w h
                  change SatL c [.slot 12 (boolVP false), .res (Log_e (.pointer none) r62.2.2), .res (RLog_e p9 r64.2.2)] a w at h
                  clear β
                  exact ⟨false, hF, h.sub [0, 1, 2] (by rfl)⟩
              · replace hF := ff_of hb68 hF
                refine region_do (n := 88) [.slot 75 100000 100000 (fun _ _ => (boolVP r65)),
      .slot 76 100000 100000 (fun _ _ => (boolVP r65)),
      .slot 77 100000 100000 (fun _ _ => (eqVP undef)),
      .slot 78 100000 100000 (fun _ _ => (boolVP false)),
      .slot 79 100000 100000 (fun _ _ => (boolVP false)),
      .slot 80 100000 100000 (fun _ _ => (eqVP undef)),
      .slot 81 100000 100000 (fun _ _ => (eqVP undef)),
      .slot 82 100000 100000 (fun _ _ => (eqVP undef)),
      .slot 83 100000 100000 (fun _ _ => (eqVP undef)),
      .slot 84 100000 100000 (fun _ _ => (eqVP undef)),
      .slot 85 100000 100000 (fun _ _ => (eqVP undef)),
      .slot 86 100000 100000 (fun _ _ => (eqVP undef)),
      .slot 87 100000 100000 (fun _ _ => (boolVP false)),
      .slot 12 100000 100000 (fun _ _ => (boolVP false))] [0, 1, 2, 3, 4, 5, 6, 7, 8, 9, 10, 11, 12, 13] [⟨[], [], [8], [], some 75⟩, ⟨[8], [], [9], [0], some 76⟩, ⟨[9], [], [10], [0, 1], some 77⟩, ⟨[9], [], [11], [0, 1, 2], some 78⟩, ⟨[11], [], [12], [0, 1, 2, 3], some 79⟩, ⟨[12], [], [13], [0, 1, 2, 3, 4], some 80⟩, ⟨[12], [], [14], [0, 1, 2, 3, 4, 5], some 81⟩, ⟨[12], [], [15], [0, 1, 2, 3, 4, 5, 6], some 82⟩, ⟨[12], [], [16], [0, 1, 2, 3, 4, 5, 6, 7], some 83⟩, ⟨[16], [], [17], [0, 1, 2, 3, 4, 5, 6, 7, 8], some 84⟩, ⟨[16], [], [18], [0, 1, 2, 3, 4, 5, 6, 7, 8, 9], some 85⟩, ⟨[12], [], [19], [0, 1, 2, 3, 4, 5, 6, 7, 8, 9, 10], some 86⟩, ⟨[12], [], [20], [0, 1, 2, 3, 4, 5, 6, 7, 8, 9, 10, 11], some 87⟩, ⟨[20], [], [21], [0, 1, 2, 3, 4, 5, 6, 7, 8, 9, 10, 11, 12], some 12⟩] [21, 5, 7] mixed hn hG h (by kernel_rfl) ?_ ?_
                · exact ⟨⟨rfl, fun β => (GOk.plain (op_call Tryd.call24 (law05_awake_ok hr65) trivial) rfl)⟩, ⟨rfl, fun β => (GOk.plain (op_move (opt 0 rfl)) rfl)⟩, ⟨rfl, fun β => (GOk.off_v (want := true) hb68 rfl rfl rfl rfl)⟩, ⟨rfl, fun β => (GOk.plain (op_pick_f hb68 (opt 0 rfl) (opc (bc _))) rfl)⟩, ⟨rfl, fun β => (GOk.plain (op_move (opt 0 rfl)) rfl)⟩, ⟨rfl, fun β => (GOk.off_v (want := true) rfl rfl rfl rfl rfl)⟩, ⟨rfl, fun β => (GOk.off_v (want := true) rfl rfl rfl rfl rfl)⟩, ⟨rfl, fun β => (GOk.off_v (want := true) rfl rfl rfl rfl rfl)⟩, ⟨rfl, fun β => (GOk.off_v (want := true) rfl rfl rfl rfl rfl)⟩, ⟨rfl, fun β => (GOk.off_u rfl rfl rfl rfl)⟩, ⟨rfl, fun β => (GOk.off_u rfl rfl rfl rfl)⟩, ⟨rfl, fun β => (GOk.off_v (want := true) rfl rfl rfl rfl rfl)⟩, ⟨rfl, fun β => (GOk.plain (op_pick_f rfl (opt 0 rfl) (opc (bc _))) rfl)⟩, ⟨rfl, fun β => (GOk.plain (op_assign (opt 0 rfl)) rfl)⟩, trivial⟩
                clear h
                intro β a w h
                change SatL c [.slot 12 (boolVP false), .res (Log_e (.pointer none) r62.2.2), .res (RLog_e p9 r64.2.2)] a w at h
                clear β
                exact ⟨false, hF, h.sub [0, 1, 2] (by rfl)⟩
            · clear h hF
              rintro a w ⟨x67, hF, h⟩
              unfold law05_LamportTurns.j2 at hF
              show Code.wp Tryd.prog _ _ a w
              refine wp_ret ?_
              obtain rfl := Option.some.inj hF
              exact ⟨.inl rfl, ret1 h Tryd.results8 (r_tmp 0 rfl) [] [] rfl rfl rfl⟩
end Go.Proofs.YtbhehllkimedaaaDoor
