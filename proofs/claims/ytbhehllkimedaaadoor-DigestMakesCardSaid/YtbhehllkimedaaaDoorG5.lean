/- The functions' Lean twins and contracts, printed by this session's own program: part 5. -/
import Derived.Test.YtbhehllkimedaaaDoorG4
namespace Go.Proofs.YtbhehllkimedaaaDoor
open Go Go.RowKit Go.Proofs
set_option maxRecDepth 100000
set_option linter.unusedVariables false
def law04_DigestMakes.j2 (x42 : Int) (x94 : Option O_Log) (s97 : O_RLog) (x108 : Bool) : Option (Flow Bool (Int × (Option O_Log) × (Option O_RLog))) := (if x108 = true then some (.ret false) else some (.cont (IntKind.wrap .i64 (x42 + 1), x94, (some s97))))
def law04_DigestMakes.j1 (a_1 : List UInt8) (x42 : Int) (x91 : List UInt8) (x92 : List UInt8) (x93 : List UInt8) (x94 : Option O_Log) (x95 : Option O_RLog) (x96 : Option O_Log) : Option (Flow Bool (Int × (Option O_Log) × (Option O_RLog))) := ((x95).bind fun s97 => (if (!decide (x91 = x92)) = true then law04_DigestMakes.j2 x42 x94 s97 true else (if (!decide (x93 = x92)) = true then law04_DigestMakes.j2 x42 x94 s97 true else ((digest_Log_Count x94).bind fun r103 => (if (!decide (r103 = (s97.f_Inputs.length : Int))) = true then law04_DigestMakes.j2 x42 x94 s97 true else ((digest_Log_Clash x94).bind fun r104 => ((ref04_Log_Clash (some ⟨s97.f_Inputs, s97.f_Digests⟩)).bind fun r105 => (if (!(r104 == r105)) = true then law04_DigestMakes.j2 x42 x94 s97 true else ((digest_Log_Has x94 x91).bind fun r106 => (if (!r106) = true then law04_DigestMakes.j2 x42 x94 s97 true else ((digest_Log_Has x94 a_1).bind fun r107 => law04_DigestMakes.j2 x42 x94 s97 (!(r107 == (decide ((0 : Int) < (((lkp a_1 s97.f_Digests).getD []).length : Int))))))))))))))))
def law04_DigestMakes.b1 (a_0 : List (S_law04_Ask)) (a_1 : List UInt8) (x42 : Int) (x43 : Option O_Log) (x44 : Option O_RLog) : Option (Flow Bool (Int × (Option O_Log) × (Option O_RLog))) := (if (decide (x42 < (a_0.length : Int))) = true then (if (0 : Int) ≤ x42 ∧ x42 < a_0.length then (if ((a_0.getD x42.toNat default).f_Two) = true then ((digest_Log_Two x43 ((a_0.getD x42.toNat default).f_Domain) ((a_0.getD x42.toNat default).f_A) ((a_0.getD x42.toNat default).f_B)).bind fun r116 => ((ref04_Log_Two x44 ((a_0.getD x42.toNat default).f_Domain) ((a_0.getD x42.toNat default).f_A) ((a_0.getD x42.toNat default).f_B)).bind fun r117 => ((digest_Log_Two none ((a_0.getD x42.toNat default).f_Domain) ((a_0.getD x42.toNat default).f_A) ((a_0.getD x42.toNat default).f_B)).bind fun r118 => law04_DigestMakes.j1 a_1 x42 r116.1 r117.1 r118.1 r116.2 r117.2 r118.2))) else ((digest_Log_Of x43 ((a_0.getD x42.toNat default).f_Domain) ((a_0.getD x42.toNat default).f_Parts)).bind fun r119 => ((ref04_Log_Of x44 ((a_0.getD x42.toNat default).f_Domain) ((a_0.getD x42.toNat default).f_Parts)).bind fun r120 => ((digest_Log_Of none ((a_0.getD x42.toNat default).f_Domain) ((a_0.getD x42.toNat default).f_Parts)).bind fun r121 => law04_DigestMakes.j1 a_1 x42 r119.1 r120.1 r121.1 r119.2 r120.2 r121.2)))) else none) else some (.brk (x42, x43, x44)))
def law04_DigestMakes.j3 (x133 : Bool) : Option Bool := some x133
def law04_DigestMakes (a_0 : List (S_law04_Ask)) (a_1 : List UInt8) : Option Bool := ((law04_awake).bind fun r2 => (if (!r2) = true then some false else ((law04_light a_0).bind fun r4 => (if (!r4) = true then ((law04_awake).bind fun r6 => some r6) else ((digest_New).bind fun r7 => ((ref04_New).bind fun r8 => ((loopN (fun s : Int × (Option O_Log) × (Option O_RLog) => law04_DigestMakes.b1 a_0 a_1 s.1 s.2.1 s.2.2) (((a_0.length : Int) - 0 : Int).toNat + 2) (0, (some r7), (some r8))).bind fun cr => match cr with | .ret r => some r | .next (y126, y127, y128) => ((law04_awake).bind fun r129 => (if r129 = true then ((digest_Log_Count none).bind fun r130 => (if (decide (r130 = (0 : Int))) = true then ((digest_Log_Clash none).bind fun r131 => (if (!r131) = true then ((digest_Log_Has none a_1).bind fun r132 => law04_DigestMakes.j3 (!r132)) else law04_DigestMakes.j3 false)) else law04_DigestMakes.j3 false)) else law04_DigestMakes.j3 false)))))))))
set_option maxHeartbeats 4000000 in
theorem law04_DigestMakes_ok {a_0 : List (S_law04_Ask)} {a_1 : List UInt8} {r : Bool} (hF : law04_DigestMakes a_0 a_1 = some r) : CallOk Tryd.prog KG 4 [(slVP S_law04_Ask.ck a_0), (aggVP [bytesCk 32 a_1])] [] (fun _ => []) (boolVP r) := by
  refine CallOk.intro 134 Tryd.func4 rfl Tryd.ntmps4 (Nat.le_of_ble_eq_true rfl) ?_
  intro c a w hG hn h
  unfold law04_DigestMakes at hF
  change SatL c [.slot 0 (slVP S_law04_Ask.ck a_0), .slot 1 (aggVP [bytesCk 32 a_1])] a w at h
  refine wp_seq ?_
  refine region_do (n := 134) [.slot 3 0 100000 (fun v1_ _ => (lpVP v1_ 0)),
      .res 0 100000 (fun v1_ _ => (lb (v1_) 24 [bytesCk 32 a_1])),
      .slot 4 100000 100000 (fun _ _ => (boolVP false))] [0, 0, 1] [⟨[1], [], [2, 3], [], some 3⟩, ⟨[], [], [4], [0], some 4⟩] [0, 2, 3] mixed hn hG h (by kernel_rfl) ?_ ?_
  · exact ⟨⟨rfl, fun β => (GOk.plain (op_box (opt 0 rfl) (cells_agg _)) rfl)⟩, ⟨rfl, fun β => (GOk.plain (op_assign (opc (bc _))) rfl)⟩, trivial⟩
  clear h
  intro β a w h
  change SatL c [.slot 0 (slVP S_law04_Ask.ck a_0), .slot 3 (lpVP (β 0) 0), .res (lb (β 0) 24 [bytesCk 32 a_1])] a w at h
  generalize β 0 = p1 at h
  clear β
  show Code.wp Tryd.prog _ _ a w
  refine wp_seq ?_
  refine wp_seq ?_
  obtain ⟨r2, hr2, hF⟩ := bind_some hF
  refine region_do (n := 134) [.slot 13 100000 100000 (fun _ _ => (boolVP r2)),
      .slot 14 100000 100000 (fun _ _ => (boolVP (!r2)))] [0, 1] [⟨[], [], [3], [], some 13⟩, ⟨[3], [], [4], [0], some 14⟩] [0, 1, 4, 2] mixed hn hG h (by kernel_rfl) ?_ ?_
  · exact ⟨⟨rfl, fun β => (GOk.plain (op_call Tryd.call11 (law04_awake_ok hr2) trivial) rfl)⟩, ⟨rfl, fun β => (GOk.plain (op_un (un_not _) (opt 0 rfl)) rfl)⟩, trivial⟩
  clear h
  intro β a w h
  change SatL c [.slot 0 (slVP S_law04_Ask.ck a_0), .slot 3 (lpVP p1 0), .slot 14 (boolVP (!r2)), .res (lb p1 24 [bytesCk 32 a_1])] a w at h
  clear β
  show Code.wp Tryd.prog _ _ a w
  refine cond_L h 2 rfl (fun hb3 => ?_) (fun hb3 => ?_)
  · replace hF := tt_of hb3 hF
    replace h := h.sub [] (by rfl)
    change SatL c [] a w at h
    refine wp_seq ?_
    refine region_do (n := 134) [.slot 4 100000 100000 (fun _ _ => (boolVP false))] [0] [⟨[], [], [0], [], some 4⟩] [0] mixed hn hG h (by kernel_rfl) ?_ ?_
    · exact ⟨⟨rfl, fun β => (GOk.plain (op_assign (opc (bc _))) rfl)⟩, trivial⟩
    clear h
    intro β a w h
    change SatL c [.slot 4 (boolVP false)] a w at h
    clear β
    show Code.wp Tryd.prog _ _ a w
    refine wp_ret ?_
    obtain rfl := Option.some.inj hF
    exact ⟨.inl rfl, ret1 h Tryd.results4 (r_tmp 0 rfl) [] [] rfl rfl rfl⟩
  · replace hF := ff_of hb3 hF
    replace h := h.sub [0, 1, 3] (by rfl)
    change SatL c [.slot 0 (slVP S_law04_Ask.ck a_0), .slot 3 (lpVP p1 0), .res (lb p1 24 [bytesCk 32 a_1])] a w at h
    refine wp_skip ?_
    show Code.wp Tryd.prog _ _ a w
    refine wp_seq ?_
    refine wp_seq ?_
    obtain ⟨r4, hr4, hF⟩ := bind_some hF
    refine region_do (n := 134) [.slot 15 100000 100000 (fun _ _ => (slVP S_law04_Ask.ck a_0)),
      .slot 16 100000 100000 (fun _ _ => (boolVP r4)),
      .slot 17 100000 100000 (fun _ _ => (boolVP (!r4)))] [0, 1, 2] [⟨[0], [], [3], [], some 15⟩, ⟨[3], [], [4], [0], some 16⟩, ⟨[4], [], [5], [0, 1], some 17⟩] [0, 1, 5, 2] mixed hn hG h (by kernel_rfl) ?_ ?_
    · exact ⟨⟨rfl, fun β => (GOk.plain (op_move (opt 0 rfl)) rfl)⟩, ⟨rfl, fun β => (GOk.plain (op_call Tryd.call12 (law04_light_ok hr4) ⟨(opt 0 rfl), trivial⟩) rfl)⟩, ⟨rfl, fun β => (GOk.plain (op_un (un_not _) (opt 0 rfl)) rfl)⟩, trivial⟩
    clear h
    intro β a w h
    change SatL c [.slot 0 (slVP S_law04_Ask.ck a_0), .slot 3 (lpVP p1 0), .slot 17 (boolVP (!r4)), .res (lb p1 24 [bytesCk 32 a_1])] a w at h
    clear β
    show Code.wp Tryd.prog _ _ a w
    refine cond_L h 2 rfl (fun hb5 => ?_) (fun hb5 => ?_)
    · replace hF := tt_of hb5 hF
      replace h := h.sub [] (by rfl)
      change SatL c [] a w at h
      refine wp_seq ?_
      obtain ⟨r6, hr6, hF⟩ := bind_some hF
      refine region_do (n := 134) [.slot 18 100000 100000 (fun _ _ => (boolVP r6)),
      .slot 4 100000 100000 (fun _ _ => (boolVP r6))] [0, 1] [⟨[], [], [0], [], some 18⟩, ⟨[0], [], [1], [0], some 4⟩] [1] mixed hn hG h (by kernel_rfl) ?_ ?_
      · exact ⟨⟨rfl, fun β => (GOk.plain (op_call Tryd.call11 (law04_awake_ok hr6) trivial) rfl)⟩, ⟨rfl, fun β => (GOk.plain (op_assign (opt 0 rfl)) rfl)⟩, trivial⟩
      clear h
      intro β a w h
      change SatL c [.slot 4 (boolVP r6)] a w at h
      clear β
      show Code.wp Tryd.prog _ _ a w
      refine wp_ret ?_
      obtain rfl := Option.some.inj hF
      exact ⟨.inl rfl, ret1 h Tryd.results4 (r_tmp 0 rfl) [] [] rfl rfl rfl⟩
    · replace hF := ff_of hb5 hF
      replace h := h.sub [0, 1, 3] (by rfl)
      change SatL c [.slot 0 (slVP S_law04_Ask.ck a_0), .slot 3 (lpVP p1 0), .res (lb p1 24 [bytesCk 32 a_1])] a w at h
      refine wp_skip ?_
      show Code.wp Tryd.prog _ _ a w
      refine wp_seq ?_
      obtain ⟨r7, hr7, hF⟩ := bind_some hF
      obtain ⟨r8, hr8, hF⟩ := bind_some hF
      refine region_do (n := 134) [.slot 19 0 100000 (fun v1_ _ => (eqVP v1_)),
      .res 0 100000 (fun v1_ _ => (Log_e (v1_) (some r7))),
      .slot 20 1 100000 (fun v1_ _ => (eqVP v1_)),
      .res 1 100000 (fun v1_ _ => (RLog_e (v1_) (some r8))),
      .slot 5 0 100000 (fun v1_ _ => (eqVP v1_)),
      .slot 6 1 100000 (fun v1_ _ => (eqVP v1_))] [0, 0, 1, 1, 2, 3] [⟨[], [], [3, 4], [], some 19⟩, ⟨[], [], [5, 6], [0], some 20⟩, ⟨[3], [], [7], [0, 1], some 5⟩, ⟨[5], [], [8], [0, 1, 2], some 6⟩] [0, 1, 7, 8, 2, 4, 6] mixed hn hG h (by kernel_rfl) ?_ ?_
      · exact ⟨⟨rfl, fun β => (GOk.plain (op_callv Tryd.call13 (digest_New_ok hr7) trivial) rfl)⟩, ⟨rfl, fun β => (GOk.plain (op_callv Tryd.call17 (ref04_New_ok hr8) trivial) rfl)⟩, ⟨rfl, fun β => (GOk.plain (op_assign (V := (eqVP (β 0))) (opt 0 rfl)) rfl)⟩, ⟨rfl, fun β => (GOk.plain (op_assign (V := (eqVP (β 1))) (opt 0 rfl)) rfl)⟩, trivial⟩
      clear h
      intro β a w h
      change SatL c [.slot 0 (slVP S_law04_Ask.ck a_0), .slot 3 (lpVP p1 0), .slot 5 (eqVP (β 0)), .slot 6 (eqVP (β 1)), .res (lb p1 24 [bytesCk 32 a_1]), .res (Log_e (β 0) (some r7)), .res (RLog_e (β 1) (some r8))] a w at h
      generalize β 0 = p9 at h
      generalize β 1 = p10 at h
      clear β
      show Code.wp Tryd.prog _ _ a w
      refine wp_seq ?_
      refine region_do (n := 134) [.slot 7 100000 100000 (fun _ _ => (eqVP (.pointer none)))] [0] [⟨[], [], [7], [], some 7⟩] [0, 1, 2, 3, 7, 4, 5, 6] mixed hn hG h (by kernel_rfl) ?_ ?_
      · exact ⟨⟨rfl, fun β => (GOk.plain (op_assign (opc (ec _))) rfl)⟩, trivial⟩
      clear h
      intro β a w h
      change SatL c [.slot 0 (slVP S_law04_Ask.ck a_0), .slot 3 (lpVP p1 0), .slot 5 (eqVP p9), .slot 6 (eqVP p10), .slot 7 (eqVP (.pointer none)), .res (lb p1 24 [bytesCk 32 a_1]), .res (Log_e p9 (some r7)), .res (RLog_e p10 (some r8))] a w at h
      clear β
      show Code.wp Tryd.prog _ _ a w
      refine wp_seq ?_
      refine wp_seq ?_
      refine region_do (n := 134) [.slot 21 100000 100000 (fun _ _ => (slVP S_law04_Ask.ck a_0)),
      .slot 22 100000 100000 (fun _ _ => (intVP .i64 (a_0.length : Int))),
      .slot 23 100000 100000 (fun _ _ => (intVP .i64 0))] [0, 1, 2] [⟨[0], [], [8], [], some 21⟩, ⟨[8], [], [9], [0], some 22⟩, ⟨[], [], [10], [0, 1], some 23⟩] [1, 2, 3, 4, 8, 9, 10, 5, 6, 7] mixed hn hG h (by kernel_rfl) ?_ ?_
      · exact ⟨⟨rfl, fun β => (GOk.plain (op_move (opt 0 rfl)) rfl)⟩, ⟨rfl, fun β => (GOk.plain (op_len_sl Tryd.underlying29 (opt 0 rfl)) rfl)⟩, ⟨rfl, fun β => (GOk.plain (op_move (opc (ic (by decide)))) rfl)⟩, trivial⟩
      clear h
      intro β a w h
      change SatL c [.slot 3 (lpVP p1 0), .slot 5 (eqVP p9), .slot 6 (eqVP p10), .slot 7 (eqVP (.pointer none)), .slot 21 (slVP S_law04_Ask.ck a_0), .slot 22 (intVP .i64 (a_0.length : Int)), .slot 23 (intVP .i64 0), .res (lb p1 24 [bytesCk 32 a_1]), .res (Log_e p9 (some r7)), .res (RLog_e p10 (some r8))] a w at h
      clear β
      show Code.wp Tryd.prog _ _ a w
      refine wp_block ?_
      obtain ⟨cr122, hl123, hF⟩ := bind_some hF
      refine wp_mono (wp_loopN (R := Bool) (S := Int × (Option O_Log) × (Option O_RLog)) (fun s a w => SatL c [.slot 3 (lpVP p1 0), .slot 5 (eqVP p9), .slot 6 (eqVP p10), .slot 7 (eqVP (.pointer none)), .slot 21 (slVP S_law04_Ask.ck a_0), .slot 22 (intVP .i64 (a_0.length : Int)), .slot 23 (intVP .i64 s.1), .res (lb p1 24 [bytesCk 32 a_1]), .res (Log_e p9 s.2.1), .res (RLog_e p10 s.2.2)] a w) (fun res e a w => match res with | .next s => e = .exit 0 ∧ SatL c [.slot 3 (lpVP p1 0), .slot 7 (eqVP (.pointer none)), .res (lb p1 24 [bytesCk 32 a_1]), .res (Log_e p9 s.2.1), .res (RLog_e p10 s.2.2)] a w | .ret r => e = .ret ∧ RetOk Tryd.prog Tryd.f4 c (boolVP r) (fun _ => []) a w) ?_ _ (0, (some r7), (some r8)) _ _ _ (h.sub [0, 1, 2, 3, 4, 5, 6, 7, 8, 9] (by rfl)) hl123) ?_
      · clear hl123 hF h
        intro s a w o h hF
        obtain ⟨x42, x43, x44⟩ := s
        change law04_DigestMakes.b1 a_0 a_1 x42 x43 x44 = some o at hF
        unfold law04_DigestMakes.b1 at hF
        change SatL c [.slot 3 (lpVP p1 0), .slot 5 (eqVP p9), .slot 6 (eqVP p10), .slot 7 (eqVP (.pointer none)), .slot 21 (slVP S_law04_Ask.ck a_0), .slot 22 (intVP .i64 (a_0.length : Int)), .slot 23 (intVP .i64 x42), .res (lb p1 24 [bytesCk 32 a_1]), .res (Log_e p9 x43), .res (RLog_e p10 x44)] a w at h
        refine wp_seq ?_
        refine region_do (n := 134) [.slot 24 100000 100000 (fun _ _ => (boolVP (decide (x42 < (a_0.length : Int)))))] [0] [⟨[6, 5], [], [10], [], some 24⟩] [0, 1, 2, 3, 4, 5, 6, 10, 7, 8, 9] mixed hn hG h (by kernel_rfl) ?_ ?_
        · exact ⟨⟨rfl, fun β => (GOk.plain (op_bin bin_lss (opt 0 rfl) (opt 1 rfl)) rfl)⟩, trivial⟩
        clear h
        intro β a w h
        change SatL c [.slot 3 (lpVP p1 0), .slot 5 (eqVP p9), .slot 6 (eqVP p10), .slot 7 (eqVP (.pointer none)), .slot 21 (slVP S_law04_Ask.ck a_0), .slot 22 (intVP .i64 (a_0.length : Int)), .slot 23 (intVP .i64 x42), .slot 24 (boolVP (decide (x42 < (a_0.length : Int)))), .res (lb p1 24 [bytesCk 32 a_1]), .res (Log_e p9 x43), .res (RLog_e p10 x44)] a w at h
        clear β
        show Code.wp Tryd.prog _ _ a w
        refine wp_seq ?_
        refine cond_L h 7 rfl (fun hb79 => ?_) (fun hb79 => ?_)
        · replace hF := tt_of hb79 hF
          replace h := h.sub [0, 1, 2, 3, 4, 5, 6, 8, 9, 10] (by rfl)
          change SatL c [.slot 3 (lpVP p1 0), .slot 5 (eqVP p9), .slot 6 (eqVP p10), .slot 7 (eqVP (.pointer none)), .slot 21 (slVP S_law04_Ask.ck a_0), .slot 22 (intVP .i64 (a_0.length : Int)), .slot 23 (intVP .i64 x42), .res (lb p1 24 [bytesCk 32 a_1]), .res (Log_e p9 x43), .res (RLog_e p10 x44)] a w at h
          refine wp_skip ?_
          show Code.wp Tryd.prog _ _ a w
          refine wp_seq ?_
          refine wp_block ?_
          refine wp_seq ?_
          obtain ⟨hv80, hF⟩ := ite_some hF
          refine region_do (n := 134) [.slot 25 100000 100000 (fun _ _ => (ppVP [one (intVP .u8 ((a_0.getD x42.toNat default).f_Domain)), one (slVP strC ((a_0.getD x42.toNat default).f_Parts)), one (boolVP ((a_0.getD x42.toNat default).f_Two)), bytesCk 32 ((a_0.getD x42.toNat default).f_A), bytesCk 32 ((a_0.getD x42.toNat default).f_B)])),
      .slot 26 100000 100000 (fun _ _ => (aggVP [one (intVP .u8 ((a_0.getD x42.toNat default).f_Domain)), one (slVP strC ((a_0.getD x42.toNat default).f_Parts)), one (boolVP ((a_0.getD x42.toNat default).f_Two)), bytesCk 32 ((a_0.getD x42.toNat default).f_A), bytesCk 32 ((a_0.getD x42.toNat default).f_B)])),
      .slot 9 2 100000 (fun v1_ _ => (lpVP v1_ 0)),
      .res 2 100000 (fun v1_ _ => (lb (v1_) 26 [one (intVP .u8 ((S_law04_Ask.mk (0 : Int) [] false (List.replicate 32 0) (List.replicate 32 0)).f_Domain)), one (slVP strC ((S_law04_Ask.mk (0 : Int) [] false (List.replicate 32 0) (List.replicate 32 0)).f_Parts)), one (boolVP ((S_law04_Ask.mk (0 : Int) [] false (List.replicate 32 0) (List.replicate 32 0)).f_Two)), bytesCk 32 ((S_law04_Ask.mk (0 : Int) [] false (List.replicate 32 0) (List.replicate 32 0)).f_A), bytesCk 32 ((S_law04_Ask.mk (0 : Int) [] false (List.replicate 32 0) (List.replicate 32 0)).f_B)])),
      .res 2 100000 (fun v1_ _ => (lb (v1_) 26 [one (intVP .u8 ((a_0.getD x42.toNat default).f_Domain)), one (slVP strC ((a_0.getD x42.toNat default).f_Parts)), one (boolVP ((a_0.getD x42.toNat default).f_Two)), bytesCk 32 ((a_0.getD x42.toNat default).f_A), bytesCk 32 ((a_0.getD x42.toNat default).f_B)]))] [0, 1, 2, 2, 3] [⟨[4, 6], [], [10], [], some 25⟩, ⟨[10], [], [11], [0], some 26⟩, ⟨[], [], [12, 13], [0, 1], some 9⟩, ⟨[12, 11], [13], [14], [0, 1, 2], none⟩] [0, 1, 2, 3, 12, 4, 5, 6, 7, 8, 9, 14] mixed hn hG h (by kernel_rfl) ?_ ?_
          · exact ⟨⟨rfl, fun β => (GOk.plain (op_indexAddr_sl Tryd.underlying29 Tryd.sizeOf26 S_law04_Ask.lens (opt 0 rfl) (opt 1 rfl) hv80) rfl)⟩, ⟨rfl, fun β => (GOk.plain (op_load_pp [one (intVP .u8 ((a_0.getD x42.toNat default).f_Domain)), one (slVP strC ((a_0.getD x42.toNat default).f_Parts)), one (boolVP ((a_0.getD x42.toNat default).f_Two)), bytesCk 32 ((a_0.getD x42.toNat default).f_A), bytesCk 32 ((a_0.getD x42.toNat default).f_B)] [] Tryd.isAgg26 Tryd.sizeOf26 (opt 0 rfl) rfl) rfl)⟩, ⟨rfl, fun β => (GOk.plain (op_alloc Tryd.zeroValue26 z26) rfl)⟩, ⟨rfl, fun β => (GOk.plain (op_store_lb [] [one (intVP .u8 ((S_law04_Ask.mk (0 : Int) [] false (List.replicate 32 0) (List.replicate 32 0)).f_Domain)), one (slVP strC ((S_law04_Ask.mk (0 : Int) [] false (List.replicate 32 0) (List.replicate 32 0)).f_Parts)), one (boolVP ((S_law04_Ask.mk (0 : Int) [] false (List.replicate 32 0) (List.replicate 32 0)).f_Two)), bytesCk 32 ((S_law04_Ask.mk (0 : Int) [] false (List.replicate 32 0) (List.replicate 32 0)).f_A), bytesCk 32 ((S_law04_Ask.mk (0 : Int) [] false (List.replicate 32 0) (List.replicate 32 0)).f_B)] [] [one (intVP .u8 ((a_0.getD x42.toNat default).f_Domain)), one (slVP strC ((a_0.getD x42.toNat default).f_Parts)), one (boolVP ((a_0.getD x42.toNat default).f_Two)), bytesCk 32 ((a_0.getD x42.toNat default).f_A), bytesCk 32 ((a_0.getD x42.toNat default).f_B)] Tryd.sizeOf26 (opt 0 rfl) (opt 1 rfl) (cells_agg _) rfl rfl rfl) rfl)⟩, trivial⟩
          clear h
          intro β a w h
          change SatL c [.slot 3 (lpVP p1 0), .slot 5 (eqVP p9), .slot 6 (eqVP p10), .slot 7 (eqVP (.pointer none)), .slot 9 (lpVP (β 2) 0), .slot 21 (slVP S_law04_Ask.ck a_0), .slot 22 (intVP .i64 (a_0.length : Int)), .slot 23 (intVP .i64 x42), .res (lb p1 24 [bytesCk 32 a_1]), .res (Log_e p9 x43), .res (RLog_e p10 x44), .res (lb (β 2) 26 [one (intVP .u8 ((a_0.getD x42.toNat default).f_Domain)), one (slVP strC ((a_0.getD x42.toNat default).f_Parts)), one (boolVP ((a_0.getD x42.toNat default).f_Two)), bytesCk 32 ((a_0.getD x42.toNat default).f_A), bytesCk 32 ((a_0.getD x42.toNat default).f_B)])] a w at h
          generalize β 2 = p81 at h
          clear β
          show Code.wp Tryd.prog _ _ a w
          refine wp_seq ?_
          refine region_do (n := 134) [.slot 10 0 100000 (fun v1_ _ => (lpVP v1_ 0)),
      .res 0 100000 (fun v1_ _ => (lb (v1_) 24 [bytesCk 32 (List.replicate 32 0)])),
      .slot 11 1 100000 (fun v1_ _ => (lpVP v1_ 0)),
      .res 1 100000 (fun v1_ _ => (lb (v1_) 24 [bytesCk 32 (List.replicate 32 0)])),
      .slot 12 2 100000 (fun v1_ _ => (lpVP v1_ 0)),
      .res 2 100000 (fun v1_ _ => (lb (v1_) 24 [bytesCk 32 (List.replicate 32 0)]))] [0, 0, 1, 1, 2, 2] [⟨[], [], [12, 13], [], some 10⟩, ⟨[], [], [14, 15], [0], some 11⟩, ⟨[], [], [16, 17], [0, 1], some 12⟩] [0, 1, 2, 3, 4, 12, 14, 16, 5, 6, 7, 8, 9, 10, 11, 13, 15, 17] mixed hn hG h (by kernel_rfl) ?_ ?_
          · exact ⟨⟨rfl, fun β => (GOk.plain (op_alloc Tryd.zeroValue24 z24) rfl)⟩, ⟨rfl, fun β => (GOk.plain (op_alloc Tryd.zeroValue24 z24) rfl)⟩, ⟨rfl, fun β => (GOk.plain (op_alloc Tryd.zeroValue24 z24) rfl)⟩, trivial⟩
          clear h
          intro β a w h
          change SatL c [.slot 3 (lpVP p1 0), .slot 5 (eqVP p9), .slot 6 (eqVP p10), .slot 7 (eqVP (.pointer none)), .slot 9 (lpVP p81 0), .slot 10 (lpVP (β 0) 0), .slot 11 (lpVP (β 1) 0), .slot 12 (lpVP (β 2) 0), .slot 21 (slVP S_law04_Ask.ck a_0), .slot 22 (intVP .i64 (a_0.length : Int)), .slot 23 (intVP .i64 x42), .res (lb p1 24 [bytesCk 32 a_1]), .res (Log_e p9 x43), .res (RLog_e p10 x44), .res (lb p81 26 [one (intVP .u8 ((a_0.getD x42.toNat default).f_Domain)), one (slVP strC ((a_0.getD x42.toNat default).f_Parts)), one (boolVP ((a_0.getD x42.toNat default).f_Two)), bytesCk 32 ((a_0.getD x42.toNat default).f_A), bytesCk 32 ((a_0.getD x42.toNat default).f_B)]), .res (lb (β 0) 24 [bytesCk 32 (List.replicate 32 0)]), .res (lb (β 1) 24 [bytesCk 32 (List.replicate 32 0)]), .res (lb (β 2) 24 [bytesCk 32 (List.replicate 32 0)])] a w at h
          generalize β 0 = p82 at h
          generalize β 1 = p83 at h
          generalize β 2 = p84 at h
          clear β
          show Code.wp Tryd.prog _ _ a w
          refine wp_seq ?_
          refine wp_seq ?_
          refine region_do (n := 134) [.slot 27 100000 100000 (fun _ _ => (lpVP p81 2)),
      .slot 28 100000 100000 (fun _ _ => (boolVP ((a_0.getD x42.toNat default).f_Two)))] [0, 1] [⟨[4], [], [18], [], some 27⟩, ⟨[18, 14], [], [19], [0], some 28⟩] [0, 1, 2, 3, 4, 5, 6, 7, 8, 9, 10, 19, 11, 12, 13, 14, 15, 16, 17] mixed hn hG h (by kernel_rfl) ?_ ?_
          · exact ⟨⟨rfl, fun β => (GOk.plain (op_fieldAddr_lbm (p := p81) (n := 1) 0 2 Tryd.underlying26 rfl Tryd.sizeOf4 (by decide) (opt 0 rfl) rfl) rfl)⟩, ⟨rfl, fun β => (GOk.plain (op_load_lb1 [one (intVP .u8 ((a_0.getD x42.toNat default).f_Domain)), one (slVP strC ((a_0.getD x42.toNat default).f_Parts))] [bytesCk 32 ((a_0.getD x42.toNat default).f_A), bytesCk 32 ((a_0.getD x42.toNat default).f_B)] 1 Tryd.isAgg4 (opt 0 rfl) rfl rfl) rfl)⟩, trivial⟩
          clear h
          intro β a w h
          change SatL c [.slot 3 (lpVP p1 0), .slot 5 (eqVP p9), .slot 6 (eqVP p10), .slot 7 (eqVP (.pointer none)), .slot 9 (lpVP p81 0), .slot 10 (lpVP p82 0), .slot 11 (lpVP p83 0), .slot 12 (lpVP p84 0), .slot 21 (slVP S_law04_Ask.ck a_0), .slot 22 (intVP .i64 (a_0.length : Int)), .slot 23 (intVP .i64 x42), .slot 28 (boolVP ((a_0.getD x42.toNat default).f_Two)), .res (lb p1 24 [bytesCk 32 a_1]), .res (Log_e p9 x43), .res (RLog_e p10 x44), .res (lb p81 26 [one (intVP .u8 ((a_0.getD x42.toNat default).f_Domain)), one (slVP strC ((a_0.getD x42.toNat default).f_Parts)), one (boolVP ((a_0.getD x42.toNat default).f_Two)), bytesCk 32 ((a_0.getD x42.toNat default).f_A), bytesCk 32 ((a_0.getD x42.toNat default).f_B)]), .res (lb p82 24 [bytesCk 32 (List.replicate 32 0)]), .res (lb p83 24 [bytesCk 32 (List.replicate 32 0)]), .res (lb p84 24 [bytesCk 32 (List.replicate 32 0)])] a w at h
          clear β
          show Code.wp Tryd.prog _ _ a w
          refine wp_cut (fun a w => ∃ (x91 : List UInt8), ∃ (x92 : List UInt8), ∃ (x93 : List UInt8), ∃ (x94 : Option O_Log), ∃ (x95 : Option O_RLog), ∃ (x96 : Option O_Log), law04_DigestMakes.j1 a_1 x42 x91 x92 x93 x94 x95 x96 = some o ∧ SatL c [.slot 3 (lpVP p1 0), .slot 5 (eqVP p9), .slot 6 (eqVP p10), .slot 7 (eqVP (.pointer none)), .slot 10 (lpVP p82 0), .slot 11 (lpVP p83 0), .slot 12 (lpVP p84 0), .slot 21 (slVP S_law04_Ask.ck a_0), .slot 22 (intVP .i64 (a_0.length : Int)), .slot 23 (intVP .i64 x42), .res (lb p1 24 [bytesCk 32 a_1]), .res (lb p82 24 [bytesCk 32 x91]), .res (lb p83 24 [bytesCk 32 x92]), .res (lb p84 24 [bytesCk 32 x93]), .res (Log_e p9 x94), .res (RLog_e p10 x95), .res (Log_e (.pointer none) x96)] a w) ?_ ?_
          · refine cond_L h 11 rfl (fun hb115 => ?_) (fun hb115 => ?_)
            · replace hF := tt_of hb115 hF
              replace h := h.sub [0, 1, 2, 3, 4, 5, 6, 7, 8, 9, 10, 12, 13, 14, 15, 16, 17, 18] (by rfl)
              change SatL c [.slot 3 (lpVP p1 0), .slot 5 (eqVP p9), .slot 6 (eqVP p10), .slot 7 (eqVP (.pointer none)), .slot 9 (lpVP p81 0), .slot 10 (lpVP p82 0), .slot 11 (lpVP p83 0), .slot 12 (lpVP p84 0), .slot 21 (slVP S_law04_Ask.ck a_0), .slot 22 (intVP .i64 (a_0.length : Int)), .slot 23 (intVP .i64 x42), .res (lb p1 24 [bytesCk 32 a_1]), .res (Log_e p9 x43), .res (RLog_e p10 x44), .res (lb p81 26 [one (intVP .u8 ((a_0.getD x42.toNat default).f_Domain)), one (slVP strC ((a_0.getD x42.toNat default).f_Parts)), one (boolVP ((a_0.getD x42.toNat default).f_Two)), bytesCk 32 ((a_0.getD x42.toNat default).f_A), bytesCk 32 ((a_0.getD x42.toNat default).f_B)]), .res (lb p82 24 [bytesCk 32 (List.replicate 32 0)]), .res (lb p83 24 [bytesCk 32 (List.replicate 32 0)]), .res (lb p84 24 [bytesCk 32 (List.replicate 32 0)])] a w at h
              replace h := h.snoc Log_nil
              replace h := h.sub [0, 1, 2, 3, 4, 5, 6, 7, 8, 9, 10, 11, 12, 13, 14, 15, 16, 17, 18] (by rfl)
              change SatL c [.slot 3 (lpVP p1 0), .slot 5 (eqVP p9), .slot 6 (eqVP p10), .slot 7 (eqVP (.pointer none)), .slot 9 (lpVP p81 0), .slot 10 (lpVP p82 0), .slot 11 (lpVP p83 0), .slot 12 (lpVP p84 0), .slot 21 (slVP S_law04_Ask.ck a_0), .slot 22 (intVP .i64 (a_0.length : Int)), .slot 23 (intVP .i64 x42), .res (lb p1 24 [bytesCk 32 a_1]), .res (Log_e p9 x43), .res (RLog_e p10 x44), .res (lb p81 26 [one (intVP .u8 ((a_0.getD x42.toNat default).f_Domain)), one (slVP strC ((a_0.getD x42.toNat default).f_Parts)), one (boolVP ((a_0.getD x42.toNat default).f_Two)), bytesCk 32 ((a_0.getD x42.toNat default).f_A), bytesCk 32 ((a_0.getD x42.toNat default).f_B)]), .res (lb p82 24 [bytesCk 32 (List.replicate 32 0)]), .res (lb p83 24 [bytesCk 32 (List.replicate 32 0)]), .res (lb p84 24 [bytesCk 32 (List.replicate 32 0)]), .res (Log_e (.pointer none) none)] a w at h
              obtain ⟨r116, hr116, hF⟩ := bind_some hF
              obtain ⟨r117, hr117, hF⟩ := bind_some hF
              obtain ⟨r118, hr118, hF⟩ := bind_some hF
              refine region_do (n := 134) [.slot 29 100000 100000 (fun _ _ => (eqVP p9)),
      .slot 30 100000 100000 (fun _ _ => (lpVP p81 0)),
      .slot 31 100000 100000 (fun _ _ => (intVP .u8 ((a_0.getD x42.toNat default).f_Domain))),
      .slot 32 100000 100000 (fun _ _ => (lpVP p81 3)),
      .slot 33 100000 100000 (fun _ _ => (aggVP [bytesCk 32 ((a_0.getD x42.toNat default).f_A)])),
      .slot 34 100000 100000 (fun _ _ => (lpVP p81 35)),
      .slot 35 100000 100000 (fun _ _ => (aggVP [bytesCk 32 ((a_0.getD x42.toNat default).f_B)])),
      .slot 36 100000 100000 (fun _ _ => (aggVP [bytesCk 32 r116.1])),
      .res 100000 100000 (fun _ _ => (Log_e p9 r116.2)),
      .slot 37 100000 100000 (fun _ _ => (eqVP p10)),
      .slot 38 100000 100000 (fun _ _ => (lpVP p81 0)),
      .slot 39 100000 100000 (fun _ _ => (intVP .u8 ((a_0.getD x42.toNat default).f_Domain))),
      .slot 40 100000 100000 (fun _ _ => (lpVP p81 3)),
      .slot 41 100000 100000 (fun _ _ => (aggVP [bytesCk 32 ((a_0.getD x42.toNat default).f_A)])),
      .slot 42 100000 100000 (fun _ _ => (lpVP p81 35)),
      .slot 43 100000 100000 (fun _ _ => (aggVP [bytesCk 32 ((a_0.getD x42.toNat default).f_B)])),
      .slot 44 100000 100000 (fun _ _ => (aggVP [bytesCk 32 r117.1])),
      .res 100000 100000 (fun _ _ => (RLog_e p10 r117.2)),
      .slot 45 100000 100000 (fun _ _ => (eqVP (.pointer none))),
      .slot 46 100000 100000 (fun _ _ => (lpVP p81 0)),
      .slot 47 100000 100000 (fun _ _ => (intVP .u8 ((a_0.getD x42.toNat default).f_Domain))),
      .slot 48 100000 100000 (fun _ _ => (lpVP p81 3)),
      .slot 49 100000 100000 (fun _ _ => (aggVP [bytesCk 32 ((a_0.getD x42.toNat default).f_A)])),
      .slot 50 100000 100000 (fun _ _ => (lpVP p81 35)),
      .slot 51 100000 100000 (fun _ _ => (aggVP [bytesCk 32 ((a_0.getD x42.toNat default).f_B)])),
      .slot 52 100000 100000 (fun _ _ => (aggVP [bytesCk 32 r118.1])),
      .res 100000 100000 (fun _ _ => (Log_e (.pointer none) r118.2)),
      .res 100000 100000 (fun _ _ => (lb p82 24 [bytesCk 32 r116.1])),
      .res 100000 100000 (fun _ _ => (lb p83 24 [bytesCk 32 r117.1])),
      .res 100000 100000 (fun _ _ => (lb p84 24 [bytesCk 32 r118.1]))] [0, 1, 2, 3, 4, 5, 6, 7, 7, 8, 9, 10, 11, 12, 13, 14, 15, 15, 16, 17, 18, 19, 20, 21, 22, 23, 23, 24, 25, 26] [⟨[1], [], [19], [], some 29⟩, ⟨[4], [], [20], [], some 30⟩, ⟨[20, 14], [], [21], [1], some 31⟩, ⟨[4], [], [22], [], some 32⟩, ⟨[22, 14], [], [23], [3], some 33⟩, ⟨[4], [], [24], [], some 34⟩, ⟨[24, 14], [], [25], [5], some 35⟩, ⟨[19, 21, 23, 25], [12], [26, 27], [0, 1, 2, 3, 4, 5, 6], some 36⟩, ⟨[2], [], [28], [], some 37⟩, ⟨[4], [], [29], [], some 38⟩, ⟨[29, 14], [], [30], [9], some 39⟩, ⟨[4], [], [31], [], some 40⟩, ⟨[31, 14], [], [32], [11], some 41⟩, ⟨[4], [], [33], [], some 42⟩, ⟨[33, 14], [], [34], [13], some 43⟩, ⟨[28, 30, 32, 34], [13], [35, 36], [0, 1, 2, 3, 4, 5, 6, 7, 8, 9, 10, 11, 12, 13, 14], some 44⟩, ⟨[3], [], [37], [], some 45⟩, ⟨[4], [], [38], [], some 46⟩, ⟨[38, 14], [], [39], [17], some 47⟩, ⟨[4], [], [40], [], some 48⟩, ⟨[40, 14], [], [41], [19], some 49⟩, ⟨[4], [], [42], [], some 50⟩, ⟨[42, 14], [], [43], [21], some 51⟩, ⟨[37, 39, 41, 43], [18], [44, 45], [0, 1, 2, 3, 4, 5, 6, 7, 8, 9, 10, 11, 12, 13, 14, 15, 16, 17, 18, 19, 20, 21, 22], some 52⟩, ⟨[5, 26], [15], [46], [0, 1, 2, 3, 4, 5, 6, 7, 8, 9, 10, 11, 12, 13, 14, 15, 16, 17, 18, 19, 20, 21, 22, 23], none⟩, ⟨[6, 35], [16], [47], [0, 1, 2, 3, 4, 5, 6, 7, 8, 9, 10, 11, 12, 13, 14, 15, 16, 17, 18, 19, 20, 21, 22, 23, 24], none⟩, ⟨[7, 44], [17], [48], [0, 1, 2, 3, 4, 5, 6, 7, 8, 9, 10, 11, 12, 13, 14, 15, 16, 17, 18, 19, 20, 21, 22, 23, 24, 25], none⟩] [0, 1, 2, 3, 5, 6, 7, 8, 9, 10, 11, 46, 47, 48, 27, 36, 45] mixed hn hG h (by kernel_rfl) ?_ ?_
              · exact ⟨⟨rfl, fun β => (GOk.plain (op_move (opt 0 rfl)) rfl)⟩, ⟨rfl, fun β => (GOk.plain (op_fieldAddr_lbm (p := p81) (n := 1) 0 0 Tryd.underlying26 rfl Tryd.sizeOf5 (by decide) (opt 0 rfl) rfl) rfl)⟩, ⟨rfl, fun β => (GOk.plain (op_load_lb1 [] [one (slVP strC ((a_0.getD x42.toNat default).f_Parts)), one (boolVP ((a_0.getD x42.toNat default).f_Two)), bytesCk 32 ((a_0.getD x42.toNat default).f_A), bytesCk 32 ((a_0.getD x42.toNat default).f_B)] 1 Tryd.isAgg5 (opt 0 rfl) rfl rfl) rfl)⟩, ⟨rfl, fun β => (GOk.plain (op_fieldAddr_lbm (p := p81) (n := 32) 0 3 Tryd.underlying26 rfl Tryd.sizeOf24 (by decide) (opt 0 rfl) rfl) rfl)⟩, ⟨rfl, fun β => (GOk.plain (op_load_lb [one (intVP .u8 ((a_0.getD x42.toNat default).f_Domain)), one (slVP strC ((a_0.getD x42.toNat default).f_Parts)), one (boolVP ((a_0.getD x42.toNat default).f_Two))] [bytesCk 32 ((a_0.getD x42.toNat default).f_A)] [bytesCk 32 ((a_0.getD x42.toNat default).f_B)] 1 Tryd.isAgg24 Tryd.sizeOf24 (opt 0 rfl) rfl rfl rfl) rfl)⟩, ⟨rfl, fun β => (GOk.plain (op_fieldAddr_lbm (p := p81) (n := 32) 0 35 Tryd.underlying26 rfl Tryd.sizeOf24 (by decide) (opt 0 rfl) rfl) rfl)⟩, ⟨rfl, fun β => (GOk.plain (op_load_lb [one (intVP .u8 ((a_0.getD x42.toNat default).f_Domain)), one (slVP strC ((a_0.getD x42.toNat default).f_Parts)), one (boolVP ((a_0.getD x42.toNat default).f_Two)), bytesCk 32 ((a_0.getD x42.toNat default).f_A)] [bytesCk 32 ((a_0.getD x42.toNat default).f_B)] [] 1 Tryd.isAgg24 Tryd.sizeOf24 (opt 0 rfl) rfl rfl rfl) rfl)⟩, ⟨rfl, fun β => (GOk.plain (op_call Tryd.call18 (digest_Log_Two_ok hr116) ⟨(opt 0 rfl), (opt 1 rfl), (opt 2 rfl), (opt 3 rfl), trivial⟩) rfl)⟩, ⟨rfl, fun β => (GOk.plain (op_move (opt 0 rfl)) rfl)⟩, ⟨rfl, fun β => (GOk.plain (op_fieldAddr_lbm (p := p81) (n := 1) 0 0 Tryd.underlying26 rfl Tryd.sizeOf5 (by decide) (opt 0 rfl) rfl) rfl)⟩, ⟨rfl, fun β => (GOk.plain (op_load_lb1 [] [one (slVP strC ((a_0.getD x42.toNat default).f_Parts)), one (boolVP ((a_0.getD x42.toNat default).f_Two)), bytesCk 32 ((a_0.getD x42.toNat default).f_A), bytesCk 32 ((a_0.getD x42.toNat default).f_B)] 1 Tryd.isAgg5 (opt 0 rfl) rfl rfl) rfl)⟩, ⟨rfl, fun β => (GOk.plain (op_fieldAddr_lbm (p := p81) (n := 32) 0 3 Tryd.underlying26 rfl Tryd.sizeOf24 (by decide) (opt 0 rfl) rfl) rfl)⟩, ⟨rfl, fun β => (GOk.plain (op_load_lb [one (intVP .u8 ((a_0.getD x42.toNat default).f_Domain)), one (slVP strC ((a_0.getD x42.toNat default).f_Parts)), one (boolVP ((a_0.getD x42.toNat default).f_Two))] [bytesCk 32 ((a_0.getD x42.toNat default).f_A)] [bytesCk 32 ((a_0.getD x42.toNat default).f_B)] 1 Tryd.isAgg24 Tryd.sizeOf24 (opt 0 rfl) rfl rfl rfl) rfl)⟩, ⟨rfl, fun β => (GOk.plain (op_fieldAddr_lbm (p := p81) (n := 32) 0 35 Tryd.underlying26 rfl Tryd.sizeOf24 (by decide) (opt 0 rfl) rfl) rfl)⟩, ⟨rfl, fun β => (GOk.plain (op_load_lb [one (intVP .u8 ((a_0.getD x42.toNat default).f_Domain)), one (slVP strC ((a_0.getD x42.toNat default).f_Parts)), one (boolVP ((a_0.getD x42.toNat default).f_Two)), bytesCk 32 ((a_0.getD x42.toNat default).f_A)] [bytesCk 32 ((a_0.getD x42.toNat default).f_B)] [] 1 Tryd.isAgg24 Tryd.sizeOf24 (opt 0 rfl) rfl rfl rfl) rfl)⟩, ⟨rfl, fun β => (GOk.plain (op_call Tryd.call19 (ref04_Log_Two_ok hr117) ⟨(opt 0 rfl), (opt 1 rfl), (opt 2 rfl), (opt 3 rfl), trivial⟩) rfl)⟩, ⟨rfl, fun β => (GOk.plain (op_move (opt 0 rfl)) rfl)⟩, ⟨rfl, fun β => (GOk.plain (op_fieldAddr_lbm (p := p81) (n := 1) 0 0 Tryd.underlying26 rfl Tryd.sizeOf5 (by decide) (opt 0 rfl) rfl) rfl)⟩, ⟨rfl, fun β => (GOk.plain (op_load_lb1 [] [one (slVP strC ((a_0.getD x42.toNat default).f_Parts)), one (boolVP ((a_0.getD x42.toNat default).f_Two)), bytesCk 32 ((a_0.getD x42.toNat default).f_A), bytesCk 32 ((a_0.getD x42.toNat default).f_B)] 1 Tryd.isAgg5 (opt 0 rfl) rfl rfl) rfl)⟩, ⟨rfl, fun β => (GOk.plain (op_fieldAddr_lbm (p := p81) (n := 32) 0 3 Tryd.underlying26 rfl Tryd.sizeOf24 (by decide) (opt 0 rfl) rfl) rfl)⟩, ⟨rfl, fun β => (GOk.plain (op_load_lb [one (intVP .u8 ((a_0.getD x42.toNat default).f_Domain)), one (slVP strC ((a_0.getD x42.toNat default).f_Parts)), one (boolVP ((a_0.getD x42.toNat default).f_Two))] [bytesCk 32 ((a_0.getD x42.toNat default).f_A)] [bytesCk 32 ((a_0.getD x42.toNat default).f_B)] 1 Tryd.isAgg24 Tryd.sizeOf24 (opt 0 rfl) rfl rfl rfl) rfl)⟩, ⟨rfl, fun β => (GOk.plain (op_fieldAddr_lbm (p := p81) (n := 32) 0 35 Tryd.underlying26 rfl Tryd.sizeOf24 (by decide) (opt 0 rfl) rfl) rfl)⟩, ⟨rfl, fun β => (GOk.plain (op_load_lb [one (intVP .u8 ((a_0.getD x42.toNat default).f_Domain)), one (slVP strC ((a_0.getD x42.toNat default).f_Parts)), one (boolVP ((a_0.getD x42.toNat default).f_Two)), bytesCk 32 ((a_0.getD x42.toNat default).f_A)] [bytesCk 32 ((a_0.getD x42.toNat default).f_B)] [] 1 Tryd.isAgg24 Tryd.sizeOf24 (opt 0 rfl) rfl rfl rfl) rfl)⟩, ⟨rfl, fun β => (GOk.plain (op_call Tryd.call18 (digest_Log_Two_ok hr118) ⟨(opt 0 rfl), (opt 1 rfl), (opt 2 rfl), (opt 3 rfl), trivial⟩) rfl)⟩, ⟨rfl, fun β => (GOk.plain (op_store_lb [] [bytesCk 32 (List.replicate 32 0)] [] [bytesCk 32 r116.1] Tryd.sizeOf24 (opt 0 rfl) (opt 1 rfl) (cells_agg _) rfl rfl rfl) rfl)⟩, ⟨rfl, fun β => (GOk.plain (op_store_lb [] [bytesCk 32 (List.replicate 32 0)] [] [bytesCk 32 r117.1] Tryd.sizeOf24 (opt 0 rfl) (opt 1 rfl) (cells_agg _) rfl rfl rfl) rfl)⟩, ⟨rfl, fun β => (GOk.plain (op_store_lb [] [bytesCk 32 (List.replicate 32 0)] [] [bytesCk 32 r118.1] Tryd.sizeOf24 (opt 0 rfl) (opt 1 rfl) (cells_agg _) rfl rfl rfl) rfl)⟩, trivial⟩
              clear h
              intro β a w h
              change SatL c [.slot 3 (lpVP p1 0), .slot 5 (eqVP p9), .slot 6 (eqVP p10), .slot 7 (eqVP (.pointer none)), .slot 10 (lpVP p82 0), .slot 11 (lpVP p83 0), .slot 12 (lpVP p84 0), .slot 21 (slVP S_law04_Ask.ck a_0), .slot 22 (intVP .i64 (a_0.length : Int)), .slot 23 (intVP .i64 x42), .res (lb p1 24 [bytesCk 32 a_1]), .res (lb p82 24 [bytesCk 32 r116.1]), .res (lb p83 24 [bytesCk 32 r117.1]), .res (lb p84 24 [bytesCk 32 r118.1]), .res (Log_e p9 r116.2), .res (RLog_e p10 r117.2), .res (Log_e (.pointer none) r118.2)] a w at h
              clear β
              exact ⟨r116.1, r117.1, r118.1, r116.2, r117.2, r118.2, hF, h.sub [0, 1, 2, 3, 4, 5, 6, 7, 8, 9, 10, 11, 12, 13, 14, 15, 16] (by rfl)⟩
            · replace hF := ff_of hb115 hF
              replace h := h.sub [0, 1, 2, 3, 4, 5, 6, 7, 8, 9, 10, 12, 13, 14, 15, 16, 17, 18] (by rfl)
              change SatL c [.slot 3 (lpVP p1 0), .slot 5 (eqVP p9), .slot 6 (eqVP p10), .slot 7 (eqVP (.pointer none)), .slot 9 (lpVP p81 0), .slot 10 (lpVP p82 0), .slot 11 (lpVP p83 0), .slot 12 (lpVP p84 0), .slot 21 (slVP S_law04_Ask.ck a_0), .slot 22 (intVP .i64 (a_0.length : Int)), .slot 23 (intVP .i64 x42), .res (lb p1 24 [bytesCk 32 a_1]), .res (Log_e p9 x43), .res (RLog_e p10 x44), .res (lb p81 26 [one (intVP .u8 ((a_0.getD x42.toNat default).f_Domain)), one (slVP strC ((a_0.getD x42.toNat default).f_Parts)), one (boolVP ((a_0.getD x42.toNat default).f_Two)), bytesCk 32 ((a_0.getD x42.toNat default).f_A), bytesCk 32 ((a_0.getD x42.toNat default).f_B)]), .res (lb p82 24 [bytesCk 32 (List.replicate 32 0)]), .res (lb p83 24 [bytesCk 32 (List.replicate 32 0)]), .res (lb p84 24 [bytesCk 32 (List.replicate 32 0)])] a w at h
              replace h := h.snoc Log_nil
              replace h := h.sub [0, 1, 2, 3, 4, 5, 6, 7, 8, 9, 10, 11, 12, 13, 14, 15, 16, 17, 18] (by rfl)
              change SatL c [.slot 3 (lpVP p1 0), .slot 5 (eqVP p9), .slot 6 (eqVP p10), .slot 7 (eqVP (.pointer none)), .slot 9 (lpVP p81 0), .slot 10 (lpVP p82 0), .slot 11 (lpVP p83 0), .slot 12 (lpVP p84 0), .slot 21 (slVP S_law04_Ask.ck a_0), .slot 22 (intVP .i64 (a_0.length : Int)), .slot 23 (intVP .i64 x42), .res (lb p1 24 [bytesCk 32 a_1]), .res (Log_e p9 x43), .res (RLog_e p10 x44), .res (lb p81 26 [one (intVP .u8 ((a_0.getD x42.toNat default).f_Domain)), one (slVP strC ((a_0.getD x42.toNat default).f_Parts)), one (boolVP ((a_0.getD x42.toNat default).f_Two)), bytesCk 32 ((a_0.getD x42.toNat default).f_A), bytesCk 32 ((a_0.getD x42.toNat default).f_B)]), .res (lb p82 24 [bytesCk 32 (List.replicate 32 0)]), .res (lb p83 24 [bytesCk 32 (List.replicate 32 0)]), .res (lb p84 24 [bytesCk 32 (List.replicate 32 0)]), .res (Log_e (.pointer none) none)] a w at h
              obtain ⟨r119, hr119, hF⟩ := bind_some hF
              obtain ⟨r120, hr120, hF⟩ := bind_some hF
              obtain ⟨r121, hr121, hF⟩ := bind_some hF
              refine region_do (n := 134) [.slot 53 100000 100000 (fun _ _ => (eqVP p9)),
      .slot 54 100000 100000 (fun _ _ => (lpVP p81 0)),
      .slot 55 100000 100000 (fun _ _ => (intVP .u8 ((a_0.getD x42.toNat default).f_Domain))),
      .slot 56 100000 100000 (fun _ _ => (lpVP p81 1)),
      .slot 57 100000 100000 (fun _ _ => (slVP strC ((a_0.getD x42.toNat default).f_Parts))),
      .slot 58 100000 100000 (fun _ _ => (aggVP [bytesCk 32 r119.1])),
      .res 100000 100000 (fun _ _ => (Log_e p9 r119.2)),
      .slot 59 100000 100000 (fun _ _ => (eqVP p10)),
      .slot 60 100000 100000 (fun _ _ => (lpVP p81 0)),
      .slot 61 100000 100000 (fun _ _ => (intVP .u8 ((a_0.getD x42.toNat default).f_Domain))),
      .slot 62 100000 100000 (fun _ _ => (lpVP p81 1)),
      .slot 63 100000 100000 (fun _ _ => (slVP strC ((a_0.getD x42.toNat default).f_Parts))),
      .slot 64 100000 100000 (fun _ _ => (aggVP [bytesCk 32 r120.1])),
      .res 100000 100000 (fun _ _ => (RLog_e p10 r120.2)),
      .slot 65 100000 100000 (fun _ _ => (eqVP (.pointer none))),
      .slot 66 100000 100000 (fun _ _ => (lpVP p81 0)),
      .slot 67 100000 100000 (fun _ _ => (intVP .u8 ((a_0.getD x42.toNat default).f_Domain))),
      .slot 68 100000 100000 (fun _ _ => (lpVP p81 1)),
      .slot 69 100000 100000 (fun _ _ => (slVP strC ((a_0.getD x42.toNat default).f_Parts))),
      .slot 70 100000 100000 (fun _ _ => (aggVP [bytesCk 32 r121.1])),
      .res 100000 100000 (fun _ _ => (Log_e (.pointer none) r121.2)),
      .res 100000 100000 (fun _ _ => (lb p82 24 [bytesCk 32 r119.1])),
      .res 100000 100000 (fun _ _ => (lb p83 24 [bytesCk 32 r120.1])),
      .res 100000 100000 (fun _ _ => (lb p84 24 [bytesCk 32 r121.1]))] [0, 1, 2, 3, 4, 5, 5, 6, 7, 8, 9, 10, 11, 11, 12, 13, 14, 15, 16, 17, 17, 18, 19, 20] [⟨[1], [], [19], [], some 53⟩, ⟨[4], [], [20], [], some 54⟩, ⟨[20, 14], [], [21], [1], some 55⟩, ⟨[4], [], [22], [], some 56⟩, ⟨[22, 14], [], [23], [3], some 57⟩, ⟨[19, 21, 23], [12], [24, 25], [0, 1, 2, 3, 4], some 58⟩, ⟨[2], [], [26], [], some 59⟩, ⟨[4], [], [27], [], some 60⟩, ⟨[27, 14], [], [28], [7], some 61⟩, ⟨[4], [], [29], [], some 62⟩, ⟨[29, 14], [], [30], [9], some 63⟩, ⟨[26, 28, 30], [13], [31, 32], [0, 1, 2, 3, 4, 5, 6, 7, 8, 9, 10], some 64⟩, ⟨[3], [], [33], [], some 65⟩, ⟨[4], [], [34], [], some 66⟩, ⟨[34, 14], [], [35], [13], some 67⟩, ⟨[4], [], [36], [], some 68⟩, ⟨[36, 14], [], [37], [15], some 69⟩, ⟨[33, 35, 37], [18], [38, 39], [0, 1, 2, 3, 4, 5, 6, 7, 8, 9, 10, 11, 12, 13, 14, 15, 16], some 70⟩, ⟨[5, 24], [15], [40], [0, 1, 2, 3, 4, 5, 6, 7, 8, 9, 10, 11, 12, 13, 14, 15, 16, 17], none⟩, ⟨[6, 31], [16], [41], [0, 1, 2, 3, 4, 5, 6, 7, 8, 9, 10, 11, 12, 13, 14, 15, 16, 17, 18], none⟩, ⟨[7, 38], [17], [42], [0, 1, 2, 3, 4, 5, 6, 7, 8, 9, 10, 11, 12, 13, 14, 15, 16, 17, 18, 19], none⟩] [0, 1, 2, 3, 5, 6, 7, 8, 9, 10, 11, 40, 41, 42, 25, 32, 39] mixed hn hG h (by kernel_rfl) ?_ ?_
              · exact ⟨⟨rfl, fun β => (GOk.plain (op_move (opt 0 rfl)) rfl)⟩, ⟨rfl, fun β => (GOk.plain (op_fieldAddr_lbm (p := p81) (n := 1) 0 0 Tryd.underlying26 rfl Tryd.sizeOf5 (by decide) (opt 0 rfl) rfl) rfl)⟩, ⟨rfl, fun β => (GOk.plain (op_load_lb1 [] [one (slVP strC ((a_0.getD x42.toNat default).f_Parts)), one (boolVP ((a_0.getD x42.toNat default).f_Two)), bytesCk 32 ((a_0.getD x42.toNat default).f_A), bytesCk 32 ((a_0.getD x42.toNat default).f_B)] 1 Tryd.isAgg5 (opt 0 rfl) rfl rfl) rfl)⟩, ⟨rfl, fun β => (GOk.plain (op_fieldAddr_lbm (p := p81) (n := 1) 0 1 Tryd.underlying26 rfl Tryd.sizeOf22 (by decide) (opt 0 rfl) rfl) rfl)⟩, ⟨rfl, fun β => (GOk.plain (op_load_lb1 [one (intVP .u8 ((a_0.getD x42.toNat default).f_Domain))] [one (boolVP ((a_0.getD x42.toNat default).f_Two)), bytesCk 32 ((a_0.getD x42.toNat default).f_A), bytesCk 32 ((a_0.getD x42.toNat default).f_B)] 1 Tryd.isAgg22 (opt 0 rfl) rfl rfl) rfl)⟩, ⟨rfl, fun β => (GOk.plain (op_call Tryd.call14 (digest_Log_Of_ok hr119) ⟨(opt 0 rfl), (opt 1 rfl), (opt 2 rfl), trivial⟩) rfl)⟩, ⟨rfl, fun β => (GOk.plain (op_move (opt 0 rfl)) rfl)⟩, ⟨rfl, fun β => (GOk.plain (op_fieldAddr_lbm (p := p81) (n := 1) 0 0 Tryd.underlying26 rfl Tryd.sizeOf5 (by decide) (opt 0 rfl) rfl) rfl)⟩, ⟨rfl, fun β => (GOk.plain (op_load_lb1 [] [one (slVP strC ((a_0.getD x42.toNat default).f_Parts)), one (boolVP ((a_0.getD x42.toNat default).f_Two)), bytesCk 32 ((a_0.getD x42.toNat default).f_A), bytesCk 32 ((a_0.getD x42.toNat default).f_B)] 1 Tryd.isAgg5 (opt 0 rfl) rfl rfl) rfl)⟩, ⟨rfl, fun β => (GOk.plain (op_fieldAddr_lbm (p := p81) (n := 1) 0 1 Tryd.underlying26 rfl Tryd.sizeOf22 (by decide) (opt 0 rfl) rfl) rfl)⟩, ⟨rfl, fun β => (GOk.plain (op_load_lb1 [one (intVP .u8 ((a_0.getD x42.toNat default).f_Domain))] [one (boolVP ((a_0.getD x42.toNat default).f_Two)), bytesCk 32 ((a_0.getD x42.toNat default).f_A), bytesCk 32 ((a_0.getD x42.toNat default).f_B)] 1 Tryd.isAgg22 (opt 0 rfl) rfl rfl) rfl)⟩, ⟨rfl, fun β => (GOk.plain (op_call Tryd.call20 (ref04_Log_Of_ok hr120) ⟨(opt 0 rfl), (opt 1 rfl), (opt 2 rfl), trivial⟩) rfl)⟩, ⟨rfl, fun β => (GOk.plain (op_move (opt 0 rfl)) rfl)⟩, ⟨rfl, fun β => (GOk.plain (op_fieldAddr_lbm (p := p81) (n := 1) 0 0 Tryd.underlying26 rfl Tryd.sizeOf5 (by decide) (opt 0 rfl) rfl) rfl)⟩, ⟨rfl, fun β => (GOk.plain (op_load_lb1 [] [one (slVP strC ((a_0.getD x42.toNat default).f_Parts)), one (boolVP ((a_0.getD x42.toNat default).f_Two)), bytesCk 32 ((a_0.getD x42.toNat default).f_A), bytesCk 32 ((a_0.getD x42.toNat default).f_B)] 1 Tryd.isAgg5 (opt 0 rfl) rfl rfl) rfl)⟩, ⟨rfl, fun β => (GOk.plain (op_fieldAddr_lbm (p := p81) (n := 1) 0 1 Tryd.underlying26 rfl Tryd.sizeOf22 (by decide) (opt 0 rfl) rfl) rfl)⟩, ⟨rfl, fun β => (GOk.plain (op_load_lb1 [one (intVP .u8 ((a_0.getD x42.toNat default).f_Domain))] [one (boolVP ((a_0.getD x42.toNat default).f_Two)), bytesCk 32 ((a_0.getD x42.toNat default).f_A), bytesCk 32 ((a_0.getD x42.toNat default).f_B)] 1 Tryd.isAgg22 (opt 0 rfl) rfl rfl) rfl)⟩, ⟨rfl, fun β => (GOk.plain (op_call Tryd.call14 (digest_Log_Of_ok hr121) ⟨(opt 0 rfl), (opt 1 rfl), (opt 2 rfl), trivial⟩) rfl)⟩, ⟨rfl, fun β => (GOk.plain (op_store_lb [] [bytesCk 32 (List.replicate 32 0)] [] [bytesCk 32 r119.1] Tryd.sizeOf24 (opt 0 rfl) (opt 1 rfl) (cells_agg _) rfl rfl rfl) rfl)⟩, ⟨rfl, fun β => (GOk.plain (op_store_lb [] [bytesCk 32 (List.replicate 32 0)] [] [bytesCk 32 r120.1] Tryd.sizeOf24 (opt 0 rfl) (opt 1 rfl) (cells_agg _) rfl rfl rfl) rfl)⟩, ⟨rfl, fun β => (GOk.plain (op_store_lb [] [bytesCk 32 (List.replicate 32 0)] [] [bytesCk 32 r121.1] Tryd.sizeOf24 (opt 0 rfl) (opt 1 rfl) (cells_agg _) rfl rfl rfl) rfl)⟩, trivial⟩
              clear h
              intro β a w h
              change SatL c [.slot 3 (lpVP p1 0), .slot 5 (eqVP p9), .slot 6 (eqVP p10), .slot 7 (eqVP (.pointer none)), .slot 10 (lpVP p82 0), .slot 11 (lpVP p83 0), .slot 12 (lpVP p84 0), .slot 21 (slVP S_law04_Ask.ck a_0), .slot 22 (intVP .i64 (a_0.length : Int)), .slot 23 (intVP .i64 x42), .res (lb p1 24 [bytesCk 32 a_1]), .res (lb p82 24 [bytesCk 32 r119.1]), .res (lb p83 24 [bytesCk 32 r120.1]), .res (lb p84 24 [bytesCk 32 r121.1]), .res (Log_e p9 r119.2), .res (RLog_e p10 r120.2), .res (Log_e (.pointer none) r121.2)] a w at h
              clear β
              exact ⟨r119.1, r120.1, r121.1, r119.2, r120.2, r121.2, hF, h.sub [0, 1, 2, 3, 4, 5, 6, 7, 8, 9, 10, 11, 12, 13, 14, 15, 16] (by rfl)⟩
          · clear h hF
            rintro a w ⟨x91, x92, x93, x94, x95, x96, hF, h⟩
            unfold law04_DigestMakes.j1 at hF
            show Code.wp Tryd.prog _ _ a w
            refine wp_seq ?_
            obtain ⟨s97, hs98, hF⟩ := bind_some hF
            rw [hs98] at h
            obtain ⟨h99, h⟩ := h.ex 15 rfl
            obtain ⟨h100, h⟩ := h.ex 15 rfl
            have hp := h.isp 15 rfl (fun Φ f w q => RLog_lp Φ f w q)
            replace h := h.slotc 2 rfl (V' := lpVP p10 0) (fun _ _ h => eq_lp h hp)
            replace h := h.sep (R := lb p10 41 [one (eqVP h99), one (eqVP h100)]) (S := (RP.sep (acc h99 9 1 strC s97.f_Inputs) (mapR h100 arrK (fun l => l.length = 32) (fun u y => acc u 9 1 strC y) s97.f_Digests))) 15 rfl
            replace h := h.sep (R := acc h99 9 1 strC s97.f_Inputs) (S := (mapR h100 arrK (fun l => l.length = 32) (fun u y => acc u 9 1 strC y) s97.f_Digests)) 17 rfl
            replace h := h.sub [0, 1, 2, 3, 4, 5, 6, 7, 8, 9, 10, 11, 12, 13, 14, 15, 16, 17, 18] (by rfl)
            change SatL c [.slot 3 (lpVP p1 0), .slot 5 (eqVP p9), .slot 6 (lpVP p10 0), .slot 7 (eqVP (.pointer none)), .slot 10 (lpVP p82 0), .slot 11 (lpVP p83 0), .slot 12 (lpVP p84 0), .slot 21 (slVP S_law04_Ask.ck a_0), .slot 22 (intVP .i64 (a_0.length : Int)), .slot 23 (intVP .i64 x42), .res (lb p1 24 [bytesCk 32 a_1]), .res (lb p82 24 [bytesCk 32 x91]), .res (lb p83 24 [bytesCk 32 x92]), .res (lb p84 24 [bytesCk 32 x93]), .res (Log_e p9 x94), .res (lb p10 41 [one (eqVP h99), one (eqVP h100)]), .res (Log_e (.pointer none) x96), .res (acc h99 9 1 strC s97.f_Inputs), .res (mapR h100 arrK (fun l => l.length = 32) (fun u y => acc u 9 1 strC y) s97.f_Digests)] a w at h
            replace h := h.unsep 17 18 rfl rfl (by decide)
            replace h := h.unsep 15 17 rfl rfl (by decide)
            replace h := h.conv 15 rfl (R' := RLog_e p10 (some s97)) (RLog_packo (v0 := h99) (v1 := h100) (o := (some s97)))
            replace h := h.slotc 2 rfl (fun _ _ h => lp_eqv h)
            replace h := h.sub [0, 1, 2, 3, 4, 5, 6, 7, 8, 9, 10, 11, 12, 13, 14, 16, 15] (by rfl)
            change SatL c [.slot 3 (lpVP p1 0), .slot 5 (eqVP p9), .slot 6 (eqVP p10), .slot 7 (eqVP (.pointer none)), .slot 10 (lpVP p82 0), .slot 11 (lpVP p83 0), .slot 12 (lpVP p84 0), .slot 21 (slVP S_law04_Ask.ck a_0), .slot 22 (intVP .i64 (a_0.length : Int)), .slot 23 (intVP .i64 x42), .res (lb p1 24 [bytesCk 32 a_1]), .res (lb p82 24 [bytesCk 32 x91]), .res (lb p83 24 [bytesCk 32 x92]), .res (lb p84 24 [bytesCk 32 x93]), .res (Log_e p9 x94), .res (Log_e (.pointer none) x96), .res (RLog_e p10 (some s97))] a w at h
            obtain ⟨h101, h⟩ := h.ex 16 rfl
            obtain ⟨h102, h⟩ := h.ex 16 rfl
            have hp := h.isp 16 rfl (fun Φ f w q => RLog_lp Φ f w q)
            replace h := h.slotc 2 rfl (V' := lpVP p10 0) (fun _ _ h => eq_lp h hp)
            replace h := h.sep (R := lb p10 41 [one (eqVP h101), one (eqVP h102)]) (S := (RP.sep (acc h101 9 1 strC s97.f_Inputs) (mapR h102 arrK (fun l => l.length = 32) (fun u y => acc u 9 1 strC y) s97.f_Digests))) 16 rfl
            replace h := h.sep (R := acc h101 9 1 strC s97.f_Inputs) (S := (mapR h102 arrK (fun l => l.length = 32) (fun u y => acc u 9 1 strC y) s97.f_Digests)) 17 rfl
            replace h := h.sub [0, 1, 2, 3, 4, 5, 6, 7, 8, 9, 10, 11, 12, 13, 14, 15, 16, 17, 18] (by rfl)
            change SatL c [.slot 3 (lpVP p1 0), .slot 5 (eqVP p9), .slot 6 (lpVP p10 0), .slot 7 (eqVP (.pointer none)), .slot 10 (lpVP p82 0), .slot 11 (lpVP p83 0), .slot 12 (lpVP p84 0), .slot 21 (slVP S_law04_Ask.ck a_0), .slot 22 (intVP .i64 (a_0.length : Int)), .slot 23 (intVP .i64 x42), .res (lb p1 24 [bytesCk 32 a_1]), .res (lb p82 24 [bytesCk 32 x91]), .res (lb p83 24 [bytesCk 32 x92]), .res (lb p84 24 [bytesCk 32 x93]), .res (Log_e p9 x94), .res (Log_e (.pointer none) x96), .res (lb p10 41 [one (eqVP h101), one (eqVP h102)]), .res (acc h101 9 1 strC s97.f_Inputs), .res (mapR h102 arrK (fun l => l.length = 32) (fun u y => acc u 9 1 strC y) s97.f_Digests)] a w at h
            refine wp_cut (fun a w => ∃ (x108 : Bool), law04_DigestMakes.j2 x42 x94 s97 x108 = some o ∧ SatL c [.slot 3 (lpVP p1 0), .slot 5 (eqVP p9), .slot 6 (eqVP p10), .slot 7 (eqVP (.pointer none)), .slot 21 (slVP S_law04_Ask.ck a_0), .slot 22 (intVP .i64 (a_0.length : Int)), .slot 23 (intVP .i64 x42), .slot 115 (boolVP x108), .res (lb p1 24 [bytesCk 32 a_1]), .res (Log_e p9 x94), .res (Log_e (.pointer none) x96), .res (RLog_e p10 (some s97))] a w) ?_ ?_
            · rcases Bool.eq_false_or_eq_true (!decide (x91 = x92)) with hb110 | hb110
              · replace hF := tt_of hb110 hF
                refine region_do (n := 134) [.slot 71 100000 100000 (fun _ _ => (aggVP [bytesCk 32 x91])),
      .slot 72 100000 100000 (fun _ _ => (aggVP [bytesCk 32 x92])),
      .slot 73 100000 100000 (fun _ _ => (boolVP (!decide (x91 = x92)))),
      .slot 74 100000 100000 (fun _ _ => (boolVP (!decide (x91 = x92)))),
      .slot 75 100000 100000 (fun _ _ => (eqVP undef)),
      .slot 76 100000 100000 (fun _ _ => (eqVP undef)),
      .slot 77 100000 100000 (fun _ _ => (eqVP undef)),
      .slot 78 100000 100000 (fun _ _ => (boolVP true)),
      .slot 79 100000 100000 (fun _ _ => (boolVP true)),
      .slot 80 100000 100000 (fun _ _ => (eqVP undef)),
      .slot 81 100000 100000 (fun _ _ => (eqVP undef)),
      .slot 82 100000 100000 (fun _ _ => (eqVP undef)),
      .slot 83 100000 100000 (fun _ _ => (eqVP undef)),
      .slot 84 100000 100000 (fun _ _ => (eqVP undef)),
      .slot 85 100000 100000 (fun _ _ => (eqVP undef)),
      .slot 86 100000 100000 (fun _ _ => (eqVP undef)),
      .slot 87 100000 100000 (fun _ _ => (eqVP undef)),
      .slot 88 100000 100000 (fun _ _ => (boolVP true)),
      .slot 89 100000 100000 (fun _ _ => (boolVP true)),
      .slot 90 100000 100000 (fun _ _ => (eqVP undef)),
      .slot 91 100000 100000 (fun _ _ => (eqVP undef)),
      .slot 92 100000 100000 (fun _ _ => (eqVP undef)),
      .slot 93 100000 100000 (fun _ _ => (eqVP undef)),
      .slot 94 100000 100000 (fun _ _ => (eqVP undef)),
      .slot 95 100000 100000 (fun _ _ => (boolVP true)),
      .slot 96 100000 100000 (fun _ _ => (boolVP true)),
      .slot 97 100000 100000 (fun _ _ => (eqVP undef)),
      .slot 98 100000 100000 (fun _ _ => (eqVP undef)),
      .slot 99 100000 100000 (fun _ _ => (eqVP undef)),
      .slot 100 100000 100000 (fun _ _ => (eqVP undef)),
      .slot 101 100000 100000 (fun _ _ => (boolVP true)),
      .slot 102 100000 100000 (fun _ _ => (boolVP true)),
      .slot 103 100000 100000 (fun _ _ => (eqVP undef)),
      .slot 104 100000 100000 (fun _ _ => (eqVP undef)),
      .slot 105 100000 100000 (fun _ _ => (eqVP undef)),
      .slot 106 100000 100000 (fun _ _ => (eqVP undef)),
      .slot 107 100000 100000 (fun _ _ => (eqVP undef)),
      .slot 108 100000 100000 (fun _ _ => (eqVP undef)),
      .slot 109 100000 100000 (fun _ _ => (eqVP undef)),
      .slot 110 100000 100000 (fun _ _ => (eqVP undef)),
      .slot 111 100000 100000 (fun _ _ => (eqVP undef)),
      .slot 112 100000 100000 (fun _ _ => (eqVP undef)),
      .slot 113 100000 100000 (fun _ _ => (eqVP undef)),
      .slot 114 100000 100000 (fun _ _ => (eqVP undef)),
      .slot 115 100000 100000 (fun _ _ => (boolVP true))] [0, 1, 2, 3, 4, 5, 6, 7, 8, 9, 10, 11, 12, 13, 14, 15, 16, 17, 18, 19, 20, 21, 22, 23, 24, 25, 26, 27, 28, 29, 30, 31, 32, 33, 34, 35, 36, 37, 38, 39, 40, 41, 42, 43, 44] [⟨[4, 11], [], [19], [], some 71⟩, ⟨[5, 12], [], [20], [], some 72⟩, ⟨[19, 20], [], [21], [0, 1], some 73⟩, ⟨[21], [], [22], [0, 1, 2], some 74⟩, ⟨[22], [], [23], [0, 1, 2, 3], some 75⟩, ⟨[22], [], [24], [0, 1, 2, 3], some 76⟩, ⟨[22], [], [25], [0, 1, 2, 3, 4, 5], some 77⟩, ⟨[22], [], [26], [0, 1, 2, 3, 4, 5, 6], some 78⟩, ⟨[26], [], [27], [0, 1, 2, 3, 4, 5, 6, 7], some 79⟩, ⟨[27], [], [28], [0, 1, 2, 3, 4, 5, 6, 7, 8], some 80⟩, ⟨[27], [], [29], [0, 1, 2, 3, 4, 5, 6, 7, 8, 9], some 81⟩, ⟨[27], [], [30], [0, 1, 2, 3, 4, 5, 6, 7, 8], some 82⟩, ⟨[27], [], [31], [0, 1, 2, 3, 4, 5, 6, 7, 8, 11], some 83⟩, ⟨[27], [], [32], [0, 1, 2, 3, 4, 5, 6, 7, 8, 11, 12], some 84⟩, ⟨[27], [], [33], [0, 1, 2, 3, 4, 5, 6, 7, 8, 11, 12, 13], some 85⟩, ⟨[27], [], [34], [0, 1, 2, 3, 4, 5, 6, 7, 8, 11, 12, 13, 14], some 86⟩, ⟨[27], [], [35], [0, 1, 2, 3, 4, 5, 6, 7, 8, 9, 10, 11, 12, 13, 14, 15], some 87⟩, ⟨[27], [], [36], [0, 1, 2, 3, 4, 5, 6, 7, 8, 9, 10, 11, 12, 13, 14, 15, 16], some 88⟩, ⟨[36], [], [37], [0, 1, 2, 3, 4, 5, 6, 7, 8, 9, 10, 11, 12, 13, 14, 15, 16, 17], some 89⟩, ⟨[37], [], [38], [0, 1, 2, 3, 4, 5, 6, 7, 8, 9, 10, 11, 12, 13, 14, 15, 16, 17, 18], some 90⟩, ⟨[37], [], [39], [0, 1, 2, 3, 4, 5, 6, 7, 8, 9, 10, 11, 12, 13, 14, 15, 16, 17, 18, 19], some 91⟩, ⟨[37], [], [40], [0, 1, 2, 3, 4, 5, 6, 7, 8, 9, 10, 11, 12, 13, 14, 15, 16, 17, 18], some 92⟩, ⟨[37], [], [41], [0, 1, 2, 3, 4, 5, 6, 7, 8, 9, 10, 11, 12, 13, 14, 15, 16, 17, 18, 19, 20, 21], some 93⟩, ⟨[37], [], [42], [0, 1, 2, 3, 4, 5, 6, 7, 8, 9, 10, 11, 12, 13, 14, 15, 16, 17, 18, 19, 20, 21, 22], some 94⟩, ⟨[37], [], [43], [0, 1, 2, 3, 4, 5, 6, 7, 8, 9, 10, 11, 12, 13, 14, 15, 16, 17, 18, 19, 20, 21, 22, 23], some 95⟩, ⟨[43], [], [44], [0, 1, 2, 3, 4, 5, 6, 7, 8, 9, 10, 11, 12, 13, 14, 15, 16, 17, 18, 19, 20, 21, 22, 23, 24], some 96⟩, ⟨[44], [], [45], [0, 1, 2, 3, 4, 5, 6, 7, 8, 9, 10, 11, 12, 13, 14, 15, 16, 17, 18, 19, 20, 21, 22, 23, 24, 25], some 97⟩, ⟨[44], [], [46], [0, 1, 2, 3, 4, 5, 6, 7, 8, 9, 10, 11, 12, 13, 14, 15, 16, 17, 18, 19, 20, 21, 22, 23, 24, 25], some 98⟩, ⟨[44], [], [47], [0, 1, 2, 3, 4, 5, 6, 7, 8, 9, 10, 11, 12, 13, 14, 15, 16, 17, 18, 19, 20, 21, 22, 23, 24, 25, 26, 27], some 99⟩, ⟨[44], [], [48], [0, 1, 2, 3, 4, 5, 6, 7, 8, 9, 10, 11, 12, 13, 14, 15, 16, 17, 18, 19, 20, 21, 22, 23, 24, 25, 26, 27, 28], some 100⟩, ⟨[44], [], [49], [0, 1, 2, 3, 4, 5, 6, 7, 8, 9, 10, 11, 12, 13, 14, 15, 16, 17, 18, 19, 20, 21, 22, 23, 24, 25, 26, 27, 28, 29], some 101⟩, ⟨[49], [], [50], [0, 1, 2, 3, 4, 5, 6, 7, 8, 9, 10, 11, 12, 13, 14, 15, 16, 17, 18, 19, 20, 21, 22, 23, 24, 25, 26, 27, 28, 29, 30], some 102⟩, ⟨[50], [], [51], [0, 1, 2, 3, 4, 5, 6, 7, 8, 9, 10, 11, 12, 13, 14, 15, 16, 17, 18, 19, 20, 21, 22, 23, 24, 25, 26, 27, 28, 29, 30, 31], some 103⟩, ⟨[50], [], [52], [0, 1, 2, 3, 4, 5, 6, 7, 8, 9, 10, 11, 12, 13, 14, 15, 16, 17, 18, 19, 20, 21, 22, 23, 24, 25, 26, 27, 28, 29, 30, 31], some 104⟩, ⟨[50], [], [53], [0, 1, 2, 3, 4, 5, 6, 7, 8, 9, 10, 11, 12, 13, 14, 15, 16, 17, 18, 19, 20, 21, 22, 23, 24, 25, 26, 27, 28, 29, 30, 31, 32, 33], some 105⟩, ⟨[50], [], [54], [0, 1, 2, 3, 4, 5, 6, 7, 8, 9, 10, 11, 12, 13, 14, 15, 16, 17, 18, 19, 20, 21, 22, 23, 24, 25, 26, 27, 28, 29, 30, 31], some 106⟩, ⟨[50], [], [55], [0, 1, 2, 3, 4, 5, 6, 7, 8, 9, 10, 11, 12, 13, 14, 15, 16, 17, 18, 19, 20, 21, 22, 23, 24, 25, 26, 27, 28, 29, 30, 31, 35], some 107⟩, ⟨[50], [], [56], [0, 1, 2, 3, 4, 5, 6, 7, 8, 9, 10, 11, 12, 13, 14, 15, 16, 17, 18, 19, 20, 21, 22, 23, 24, 25, 26, 27, 28, 29, 30, 31, 35, 36], some 108⟩, ⟨[50], [], [57], [0, 1, 2, 3, 4, 5, 6, 7, 8, 9, 10, 11, 12, 13, 14, 15, 16, 17, 18, 19, 20, 21, 22, 23, 24, 25, 26, 27, 28, 29, 30, 31, 35, 36, 37], some 109⟩, ⟨[50], [], [58], [0, 1, 2, 3, 4, 5, 6, 7, 8, 9, 10, 11, 12, 13, 14, 15, 16, 17, 18, 19, 20, 21, 22, 23, 24, 25, 26, 27, 28, 29, 30, 31], some 110⟩, ⟨[50], [], [59], [0, 1, 2, 3, 4, 5, 6, 7, 8, 9, 10, 11, 12, 13, 14, 15, 16, 17, 18, 19, 20, 21, 22, 23, 24, 25, 26, 27, 28, 29, 30, 31, 35, 36, 37, 38, 39], some 111⟩, ⟨[50], [], [60], [0, 1, 2, 3, 4, 5, 6, 7, 8, 9, 10, 11, 12, 13, 14, 15, 16, 17, 18, 19, 20, 21, 22, 23, 24, 25, 26, 27, 28, 29, 30, 31, 35, 36, 37, 38, 39, 40], some 112⟩, ⟨[50], [], [61], [0, 1, 2, 3, 4, 5, 6, 7, 8, 9, 10, 11, 12, 13, 14, 15, 16, 17, 18, 19, 20, 21, 22, 23, 24, 25, 26, 27, 28, 29, 30, 31, 35, 36, 37, 38, 39, 40, 41], some 113⟩, ⟨[50], [], [62], [0, 1, 2, 3, 4, 5, 6, 7, 8, 9, 10, 11, 12, 13, 14, 15, 16, 17, 18, 19, 20, 21, 22, 23, 24, 25, 26, 27, 28, 29, 30, 31, 32, 33, 34, 35, 36, 37, 38, 39, 40, 41, 42], some 114⟩, ⟨[50], [], [63], [0, 1, 2, 3, 4, 5, 6, 7, 8, 9, 10, 11, 12, 13, 14, 15, 16, 17, 18, 19, 20, 21, 22, 23, 24, 25, 26, 27, 28, 29, 30, 31, 32, 33, 34, 35, 36, 37, 38, 39, 40, 41, 42, 43], some 115⟩] [0, 1, 2, 3, 7, 8, 9, 63, 10, 14, 15, 16, 17, 18] mixed hn hG h (by kernel_rfl) ?_ ?_
                · exact ⟨⟨rfl, fun β => (GOk.plain (op_load_lb [] [bytesCk 32 x91] [] 1 Tryd.isAgg24 Tryd.sizeOf24 (opt 0 rfl) rfl rfl rfl) rfl)⟩, ⟨rfl, fun β => (GOk.plain (op_load_lb [] [bytesCk 32 x92] [] 1 Tryd.isAgg24 Tryd.sizeOf24 (opt 0 rfl) rfl rfl rfl) rfl)⟩, ⟨rfl, fun β => (GOk.plain (op_bin (bin_aneq Tryd.underlying24 Tryd.underlying5 Tryd.type5 Tryd.sizeOf5 Tryd.isAgg5 Tryd.eqGuardType24) (opt 0 rfl) (opt 1 rfl)) rfl)⟩, ⟨rfl, fun β => (GOk.plain (op_move (opt 0 rfl)) rfl)⟩, ⟨rfl, fun β => (GOk.off_v (want := false) hb110 rfl rfl rfl rfl)⟩, ⟨rfl, fun β => (GOk.off_v (want := false) hb110 rfl rfl rfl rfl)⟩, ⟨rfl, fun β => (GOk.off_v (want := false) hb110 rfl rfl rfl rfl)⟩, ⟨rfl, fun β => (GOk.plain (op_pick_t hb110 (opt 0 rfl) (opc (bc _))) rfl)⟩, ⟨rfl, fun β => (GOk.plain (op_move (opt 0 rfl)) rfl)⟩, ⟨rfl, fun β => (GOk.off_v (want := false) rfl rfl rfl rfl rfl)⟩, ⟨rfl, fun β => (GOk.off_v (want := false) rfl rfl rfl rfl rfl)⟩, ⟨rfl, fun β => (GOk.off_v (want := false) rfl rfl rfl rfl rfl)⟩, ⟨rfl, fun β => (GOk.off_v (want := false) rfl rfl rfl rfl rfl)⟩, ⟨rfl, fun β => (GOk.off_v (want := false) rfl rfl rfl rfl rfl)⟩, ⟨rfl, fun β => (GOk.off_v (want := false) rfl rfl rfl rfl rfl)⟩, ⟨rfl, fun β => (GOk.off_v (want := false) rfl rfl rfl rfl rfl)⟩, ⟨rfl, fun β => (GOk.off_v (want := false) rfl rfl rfl rfl rfl)⟩, ⟨rfl, fun β => (GOk.plain (op_pick_t rfl (opt 0 rfl) (opc (bc _))) rfl)⟩, ⟨rfl, fun β => (GOk.plain (op_move (opt 0 rfl)) rfl)⟩, ⟨rfl, fun β => (GOk.off_v (want := false) rfl rfl rfl rfl rfl)⟩, ⟨rfl, fun β => (GOk.off_v (want := false) rfl rfl rfl rfl rfl)⟩, ⟨rfl, fun β => (GOk.off_v (want := false) rfl rfl rfl rfl rfl)⟩, ⟨rfl, fun β => (GOk.off_v (want := false) rfl rfl rfl rfl rfl)⟩, ⟨rfl, fun β => (GOk.off_v (want := false) rfl rfl rfl rfl rfl)⟩, ⟨rfl, fun β => (GOk.plain (op_pick_t rfl (opt 0 rfl) (opc (bc _))) rfl)⟩, ⟨rfl, fun β => (GOk.plain (op_move (opt 0 rfl)) rfl)⟩, ⟨rfl, fun β => (GOk.off_v (want := false) rfl rfl rfl rfl rfl)⟩, ⟨rfl, fun β => (GOk.off_v (want := false) rfl rfl rfl rfl rfl)⟩, ⟨rfl, fun β => (GOk.off_v (want := false) rfl rfl rfl rfl rfl)⟩, ⟨rfl, fun β => (GOk.off_v (want := false) rfl rfl rfl rfl rfl)⟩, ⟨rfl, fun β => (GOk.plain (op_pick_t rfl (opt 0 rfl) (opc (bc _))) rfl)⟩, ⟨rfl, fun β => (GOk.plain (op_move (opt 0 rfl)) rfl)⟩, ⟨rfl, fun β => (GOk.off_v (want := false) rfl rfl rfl rfl rfl)⟩, ⟨rfl, fun β => (GOk.off_v (want := false) rfl rfl rfl rfl rfl)⟩, ⟨rfl, fun β => (GOk.off_v (want := false) rfl rfl rfl rfl rfl)⟩, ⟨rfl, fun β => (GOk.off_v (want := false) rfl rfl rfl rfl rfl)⟩, ⟨rfl, fun β => (GOk.off_v (want := false) rfl rfl rfl rfl rfl)⟩, ⟨rfl, fun β => (GOk.off_v (want := false) rfl rfl rfl rfl rfl)⟩, ⟨rfl, fun β => (GOk.off_v (want := false) rfl rfl rfl rfl rfl)⟩, ⟨rfl, fun β => (GOk.off_v (want := false) rfl rfl rfl rfl rfl)⟩, ⟨rfl, fun β => (GOk.off_v (want := false) rfl rfl rfl rfl rfl)⟩, ⟨rfl, fun β => (GOk.off_v (want := false) rfl rfl rfl rfl rfl)⟩, ⟨rfl, fun β => (GOk.off_v (want := false) rfl rfl rfl rfl rfl)⟩, ⟨rfl, fun β => (GOk.off_v (want := false) rfl rfl rfl rfl rfl)⟩, ⟨rfl, fun β => (GOk.plain (op_pick_t rfl (opt 0 rfl) (opc (bc _))) rfl)⟩, trivial⟩
                clear h
                intro β a w h
                change SatL c [.slot 3 (lpVP p1 0), .slot 5 (eqVP p9), .slot 6 (lpVP p10 0), .slot 7 (eqVP (.pointer none)), .slot 21 (slVP S_law04_Ask.ck a_0), .slot 22 (intVP .i64 (a_0.length : Int)), .slot 23 (intVP .i64 x42), .slot 115 (boolVP true), .res (lb p1 24 [bytesCk 32 a_1]), .res (Log_e p9 x94), .res (Log_e (.pointer none) x96), .res (lb p10 41 [one (eqVP h101), one (eqVP h102)]), .res (acc h101 9 1 strC s97.f_Inputs), .res (mapR h102 arrK (fun l => l.length = 32) (fun u y => acc u 9 1 strC y) s97.f_Digests)] a w at h
                clear β
                replace h := h.unsep 12 13 rfl rfl (by decide)
                replace h := h.unsep 11 12 rfl rfl (by decide)
                replace h := h.conv 11 rfl (R' := RLog_e p10 (some s97)) (RLog_packo (v0 := h101) (v1 := h102) (o := (some s97)))
                replace h := h.slotc 2 rfl (fun _ _ h => lp_eqv h)
                replace h := h.sub [0, 1, 2, 3, 4, 5, 6, 7, 8, 9, 10, 11] (by rfl)
                change SatL c [.slot 3 (lpVP p1 0), .slot 5 (eqVP p9), .slot 6 (eqVP p10), .slot 7 (eqVP (.pointer none)), .slot 21 (slVP S_law04_Ask.ck a_0), .slot 22 (intVP .i64 (a_0.length : Int)), .slot 23 (intVP .i64 x42), .slot 115 (boolVP true), .res (lb p1 24 [bytesCk 32 a_1]), .res (Log_e p9 x94), .res (Log_e (.pointer none) x96), .res (RLog_e p10 (some s97))] a w at h
                exact ⟨true, hF, h.sub [0, 1, 2, 3, 4, 5, 6, 7, 8, 9, 10, 11] (by rfl)⟩
              · replace hF := ff_of hb110 hF
                rcases Bool.eq_false_or_eq_true (!decide (x93 = x92)) with hb111 | hb111
                · replace hF := tt_of hb111 hF
                  refine region_do (n := 134) [.slot 71 100000 100000 (fun _ _ => (aggVP [bytesCk 32 x91])),
      .slot 72 100000 100000 (fun _ _ => (aggVP [bytesCk 32 x92])),
      .slot 73 100000 100000 (fun _ _ => (boolVP (!decide (x91 = x92)))),
      .slot 74 100000 100000 (fun _ _ => (boolVP (!decide (x91 = x92)))),
      .slot 75 100000 100000 (fun _ _ => (aggVP [bytesCk 32 x93])),
      .slot 76 100000 100000 (fun _ _ => (aggVP [bytesCk 32 x92])),
      .slot 77 100000 100000 (fun _ _ => (boolVP (!decide (x93 = x92)))),
      .slot 78 100000 100000 (fun _ _ => (boolVP (!decide (x93 = x92)))),
      .slot 79 100000 100000 (fun _ _ => (boolVP (!decide (x93 = x92)))),
      .slot 80 100000 100000 (fun _ _ => (eqVP undef)),
      .slot 81 100000 100000 (fun _ _ => (eqVP undef)),
      .slot 82 100000 100000 (fun _ _ => (eqVP undef)),
      .slot 83 100000 100000 (fun _ _ => (eqVP undef)),
      .slot 84 100000 100000 (fun _ _ => (eqVP undef)),
      .slot 85 100000 100000 (fun _ _ => (eqVP undef)),
      .slot 86 100000 100000 (fun _ _ => (eqVP undef)),
      .slot 87 100000 100000 (fun _ _ => (eqVP undef)),
      .slot 88 100000 100000 (fun _ _ => (boolVP true)),
      .slot 89 100000 100000 (fun _ _ => (boolVP true)),
      .slot 90 100000 100000 (fun _ _ => (eqVP undef)),
      .slot 91 100000 100000 (fun _ _ => (eqVP undef)),
      .slot 92 100000 100000 (fun _ _ => (eqVP undef)),
      .slot 93 100000 100000 (fun _ _ => (eqVP undef)),
      .slot 94 100000 100000 (fun _ _ => (eqVP undef)),
      .slot 95 100000 100000 (fun _ _ => (boolVP true)),
      .slot 96 100000 100000 (fun _ _ => (boolVP true)),
      .slot 97 100000 100000 (fun _ _ => (eqVP undef)),
      .slot 98 100000 100000 (fun _ _ => (eqVP undef)),
      .slot 99 100000 100000 (fun _ _ => (eqVP undef)),
      .slot 100 100000 100000 (fun _ _ => (eqVP undef)),
      .slot 101 100000 100000 (fun _ _ => (boolVP true)),
      .slot 102 100000 100000 (fun _ _ => (boolVP true)),
      .slot 103 100000 100000 (fun _ _ => (eqVP undef)),
      .slot 104 100000 100000 (fun _ _ => (eqVP undef)),
      .slot 105 100000 100000 (fun _ _ => (eqVP undef)),
      .slot 106 100000 100000 (fun _ _ => (eqVP undef)),
      .slot 107 100000 100000 (fun _ _ => (eqVP undef)),
      .slot 108 100000 100000 (fun _ _ => (eqVP undef)),
      .slot 109 100000 100000 (fun _ _ => (eqVP undef)),
      .slot 110 100000 100000 (fun _ _ => (eqVP undef)),
      .slot 111 100000 100000 (fun _ _ => (eqVP undef)),
      .slot 112 100000 100000 (fun _ _ => (eqVP undef)),
      .slot 113 100000 100000 (fun _ _ => (eqVP undef)),
      .slot 114 100000 100000 (fun _ _ => (eqVP undef)),
      .slot 115 100000 100000 (fun _ _ => (boolVP true))] [0, 1, 2, 3, 4, 5, 6, 7, 8, 9, 10, 11, 12, 13, 14, 15, 16, 17, 18, 19, 20, 21, 22, 23, 24, 25, 26, 27, 28, 29, 30, 31, 32, 33, 34, 35, 36, 37, 38, 39, 40, 41, 42, 43, 44] [⟨[4, 11], [], [19], [], some 71⟩, ⟨[5, 12], [], [20], [], some 72⟩, ⟨[19, 20], [], [21], [0, 1], some 73⟩, ⟨[21], [], [22], [0, 1, 2], some 74⟩, ⟨[22, 6, 13], [], [23], [0, 1, 2, 3], some 75⟩, ⟨[22, 5, 12], [], [24], [0, 1, 2, 3], some 76⟩, ⟨[22, 23, 24], [], [25], [0, 1, 2, 3, 4, 5], some 77⟩, ⟨[22, 25], [], [26], [0, 1, 2, 3, 4, 5, 6], some 78⟩, ⟨[26], [], [27], [0, 1, 2, 3, 4, 5, 6, 7], some 79⟩, ⟨[27], [], [28], [0, 1, 2, 3, 4, 5, 6, 7, 8], some 80⟩, ⟨[27], [], [29], [0, 1, 2, 3, 4, 5, 6, 7, 8, 9], some 81⟩, ⟨[27], [], [30], [0, 1, 2, 3, 4, 5, 6, 7, 8], some 82⟩, ⟨[27], [], [31], [0, 1, 2, 3, 4, 5, 6, 7, 8, 11], some 83⟩, ⟨[27], [], [32], [0, 1, 2, 3, 4, 5, 6, 7, 8, 11, 12], some 84⟩, ⟨[27], [], [33], [0, 1, 2, 3, 4, 5, 6, 7, 8, 11, 12, 13], some 85⟩, ⟨[27], [], [34], [0, 1, 2, 3, 4, 5, 6, 7, 8, 11, 12, 13, 14], some 86⟩, ⟨[27], [], [35], [0, 1, 2, 3, 4, 5, 6, 7, 8, 9, 10, 11, 12, 13, 14, 15], some 87⟩, ⟨[27], [], [36], [0, 1, 2, 3, 4, 5, 6, 7, 8, 9, 10, 11, 12, 13, 14, 15, 16], some 88⟩, ⟨[36], [], [37], [0, 1, 2, 3, 4, 5, 6, 7, 8, 9, 10, 11, 12, 13, 14, 15, 16, 17], some 89⟩, ⟨[37], [], [38], [0, 1, 2, 3, 4, 5, 6, 7, 8, 9, 10, 11, 12, 13, 14, 15, 16, 17, 18], some 90⟩, ⟨[37], [], [39], [0, 1, 2, 3, 4, 5, 6, 7, 8, 9, 10, 11, 12, 13, 14, 15, 16, 17, 18, 19], some 91⟩, ⟨[37], [], [40], [0, 1, 2, 3, 4, 5, 6, 7, 8, 9, 10, 11, 12, 13, 14, 15, 16, 17, 18], some 92⟩, ⟨[37], [], [41], [0, 1, 2, 3, 4, 5, 6, 7, 8, 9, 10, 11, 12, 13, 14, 15, 16, 17, 18, 19, 20, 21], some 93⟩, ⟨[37], [], [42], [0, 1, 2, 3, 4, 5, 6, 7, 8, 9, 10, 11, 12, 13, 14, 15, 16, 17, 18, 19, 20, 21, 22], some 94⟩, ⟨[37], [], [43], [0, 1, 2, 3, 4, 5, 6, 7, 8, 9, 10, 11, 12, 13, 14, 15, 16, 17, 18, 19, 20, 21, 22, 23], some 95⟩, ⟨[43], [], [44], [0, 1, 2, 3, 4, 5, 6, 7, 8, 9, 10, 11, 12, 13, 14, 15, 16, 17, 18, 19, 20, 21, 22, 23, 24], some 96⟩, ⟨[44], [], [45], [0, 1, 2, 3, 4, 5, 6, 7, 8, 9, 10, 11, 12, 13, 14, 15, 16, 17, 18, 19, 20, 21, 22, 23, 24, 25], some 97⟩, ⟨[44], [], [46], [0, 1, 2, 3, 4, 5, 6, 7, 8, 9, 10, 11, 12, 13, 14, 15, 16, 17, 18, 19, 20, 21, 22, 23, 24, 25], some 98⟩, ⟨[44], [], [47], [0, 1, 2, 3, 4, 5, 6, 7, 8, 9, 10, 11, 12, 13, 14, 15, 16, 17, 18, 19, 20, 21, 22, 23, 24, 25, 26, 27], some 99⟩, ⟨[44], [], [48], [0, 1, 2, 3, 4, 5, 6, 7, 8, 9, 10, 11, 12, 13, 14, 15, 16, 17, 18, 19, 20, 21, 22, 23, 24, 25, 26, 27, 28], some 100⟩, ⟨[44], [], [49], [0, 1, 2, 3, 4, 5, 6, 7, 8, 9, 10, 11, 12, 13, 14, 15, 16, 17, 18, 19, 20, 21, 22, 23, 24, 25, 26, 27, 28, 29], some 101⟩, ⟨[49], [], [50], [0, 1, 2, 3, 4, 5, 6, 7, 8, 9, 10, 11, 12, 13, 14, 15, 16, 17, 18, 19, 20, 21, 22, 23, 24, 25, 26, 27, 28, 29, 30], some 102⟩, ⟨[50], [], [51], [0, 1, 2, 3, 4, 5, 6, 7, 8, 9, 10, 11, 12, 13, 14, 15, 16, 17, 18, 19, 20, 21, 22, 23, 24, 25, 26, 27, 28, 29, 30, 31], some 103⟩, ⟨[50], [], [52], [0, 1, 2, 3, 4, 5, 6, 7, 8, 9, 10, 11, 12, 13, 14, 15, 16, 17, 18, 19, 20, 21, 22, 23, 24, 25, 26, 27, 28, 29, 30, 31], some 104⟩, ⟨[50], [], [53], [0, 1, 2, 3, 4, 5, 6, 7, 8, 9, 10, 11, 12, 13, 14, 15, 16, 17, 18, 19, 20, 21, 22, 23, 24, 25, 26, 27, 28, 29, 30, 31, 32, 33], some 105⟩, ⟨[50], [], [54], [0, 1, 2, 3, 4, 5, 6, 7, 8, 9, 10, 11, 12, 13, 14, 15, 16, 17, 18, 19, 20, 21, 22, 23, 24, 25, 26, 27, 28, 29, 30, 31], some 106⟩, ⟨[50], [], [55], [0, 1, 2, 3, 4, 5, 6, 7, 8, 9, 10, 11, 12, 13, 14, 15, 16, 17, 18, 19, 20, 21, 22, 23, 24, 25, 26, 27, 28, 29, 30, 31, 35], some 107⟩, ⟨[50], [], [56], [0, 1, 2, 3, 4, 5, 6, 7, 8, 9, 10, 11, 12, 13, 14, 15, 16, 17, 18, 19, 20, 21, 22, 23, 24, 25, 26, 27, 28, 29, 30, 31, 35, 36], some 108⟩, ⟨[50], [], [57], [0, 1, 2, 3, 4, 5, 6, 7, 8, 9, 10, 11, 12, 13, 14, 15, 16, 17, 18, 19, 20, 21, 22, 23, 24, 25, 26, 27, 28, 29, 30, 31, 35, 36, 37], some 109⟩, ⟨[50], [], [58], [0, 1, 2, 3, 4, 5, 6, 7, 8, 9, 10, 11, 12, 13, 14, 15, 16, 17, 18, 19, 20, 21, 22, 23, 24, 25, 26, 27, 28, 29, 30, 31], some 110⟩, ⟨[50], [], [59], [0, 1, 2, 3, 4, 5, 6, 7, 8, 9, 10, 11, 12, 13, 14, 15, 16, 17, 18, 19, 20, 21, 22, 23, 24, 25, 26, 27, 28, 29, 30, 31, 35, 36, 37, 38, 39], some 111⟩, ⟨[50], [], [60], [0, 1, 2, 3, 4, 5, 6, 7, 8, 9, 10, 11, 12, 13, 14, 15, 16, 17, 18, 19, 20, 21, 22, 23, 24, 25, 26, 27, 28, 29, 30, 31, 35, 36, 37, 38, 39, 40], some 112⟩, ⟨[50], [], [61], [0, 1, 2, 3, 4, 5, 6, 7, 8, 9, 10, 11, 12, 13, 14, 15, 16, 17, 18, 19, 20, 21, 22, 23, 24, 25, 26, 27, 28, 29, 30, 31, 35, 36, 37, 38, 39, 40, 41], some 113⟩, ⟨[50], [], [62], [0, 1, 2, 3, 4, 5, 6, 7, 8, 9, 10, 11, 12, 13, 14, 15, 16, 17, 18, 19, 20, 21, 22, 23, 24, 25, 26, 27, 28, 29, 30, 31, 32, 33, 34, 35, 36, 37, 38, 39, 40, 41, 42], some 114⟩, ⟨[50], [], [63], [0, 1, 2, 3, 4, 5, 6, 7, 8, 9, 10, 11, 12, 13, 14, 15, 16, 17, 18, 19, 20, 21, 22, 23, 24, 25, 26, 27, 28, 29, 30, 31, 32, 33, 34, 35, 36, 37, 38, 39, 40, 41, 42, 43], some 115⟩] [0, 1, 2, 3, 7, 8, 9, 63, 10, 14, 15, 16, 17, 18] mixed hn hG h (by kernel_rfl) ?_ ?_
                  · exact ⟨⟨rfl, fun β => (GOk.plain (op_load_lb [] [bytesCk 32 x91] [] 1 Tryd.isAgg24 Tryd.sizeOf24 (opt 0 rfl) rfl rfl rfl) rfl)⟩, ⟨rfl, fun β => (GOk.plain (op_load_lb [] [bytesCk 32 x92] [] 1 Tryd.isAgg24 Tryd.sizeOf24 (opt 0 rfl) rfl rfl rfl) rfl)⟩, ⟨rfl, fun β => (GOk.plain (op_bin (bin_aneq Tryd.underlying24 Tryd.underlying5 Tryd.type5 Tryd.sizeOf5 Tryd.isAgg5 Tryd.eqGuardType24) (opt 0 rfl) (opt 1 rfl)) rfl)⟩, ⟨rfl, fun β => (GOk.plain (op_move (opt 0 rfl)) rfl)⟩, ⟨rfl, fun β => (GOk.on_eq hb110 rfl rfl rfl (op_load_lb [] [bytesCk 32 x93] [] 1 Tryd.isAgg24 Tryd.sizeOf24 (opt 0 rfl) rfl rfl rfl))⟩, ⟨rfl, fun β => (GOk.on_eq hb110 rfl rfl rfl (op_load_lb [] [bytesCk 32 x92] [] 1 Tryd.isAgg24 Tryd.sizeOf24 (opt 0 rfl) rfl rfl rfl))⟩, ⟨rfl, fun β => (GOk.on_eq hb110 rfl rfl rfl (op_bin (bin_aneq Tryd.underlying24 Tryd.underlying5 Tryd.type5 Tryd.sizeOf5 Tryd.isAgg5 Tryd.eqGuardType24) (opt 0 rfl) (opt 1 rfl)))⟩, ⟨rfl, fun β => (GOk.plain (op_pick_f hb110 (opt 0 rfl) (opt 1 rfl)) rfl)⟩, ⟨rfl, fun β => (GOk.plain (op_move (opt 0 rfl)) rfl)⟩, ⟨rfl, fun β => (GOk.off_v (want := false) hb111 rfl rfl rfl rfl)⟩, ⟨rfl, fun β => (GOk.off_v (want := false) hb111 rfl rfl rfl rfl)⟩, ⟨rfl, fun β => (GOk.off_v (want := false) hb111 rfl rfl rfl rfl)⟩, ⟨rfl, fun β => (GOk.off_v (want := false) hb111 rfl rfl rfl rfl)⟩, ⟨rfl, fun β => (GOk.off_v (want := false) hb111 rfl rfl rfl rfl)⟩, ⟨rfl, fun β => (GOk.off_v (want := false) hb111 rfl rfl rfl rfl)⟩, ⟨rfl, fun β => (GOk.off_v (want := false) hb111 rfl rfl rfl rfl)⟩, ⟨rfl, fun β => (GOk.off_v (want := false) hb111 rfl rfl rfl rfl)⟩, ⟨rfl, fun β => (GOk.plain (op_pick_t hb111 (opt 0 rfl) (opc (bc _))) rfl)⟩, ⟨rfl, fun β => (GOk.plain (op_move (opt 0 rfl)) rfl)⟩, ⟨rfl, fun β => (GOk.off_v (want := false) rfl rfl rfl rfl rfl)⟩, ⟨rfl, fun β => (GOk.off_v (want := false) rfl rfl rfl rfl rfl)⟩, ⟨rfl, fun β => (GOk.off_v (want := false) rfl rfl rfl rfl rfl)⟩, ⟨rfl, fun β => (GOk.off_v (want := false) rfl rfl rfl rfl rfl)⟩, ⟨rfl, fun β => (GOk.off_v (want := false) rfl rfl rfl rfl rfl)⟩, ⟨rfl, fun β => (GOk.plain (op_pick_t rfl (opt 0 rfl) (opc (bc _))) rfl)⟩, ⟨rfl, fun β => (GOk.plain (op_move (opt 0 rfl)) rfl)⟩, ⟨rfl, fun β => (GOk.off_v (want := false) rfl rfl rfl rfl rfl)⟩, ⟨rfl, fun β => (GOk.off_v (want := false) rfl rfl rfl rfl rfl)⟩, ⟨rfl, fun β => (GOk.off_v (want := false) rfl rfl rfl rfl rfl)⟩, ⟨rfl, fun β => (GOk.off_v (want := false) rfl rfl rfl rfl rfl)⟩, ⟨rfl, fun β => (GOk.plain (op_pick_t rfl (opt 0 rfl) (opc (bc _))) rfl)⟩, ⟨rfl, fun β => (GOk.plain (op_move (opt 0 rfl)) rfl)⟩, ⟨rfl, fun β => (GOk.off_v (want := false) rfl rfl rfl rfl rfl)⟩, ⟨rfl, fun β => (GOk.off_v (want := false) rfl rfl rfl rfl rfl)⟩, ⟨rfl, fun β => (GOk.off_v (want := false) rfl rfl rfl rfl rfl)⟩, ⟨rfl, fun β => (GOk.off_v (want := false) rfl rfl rfl rfl rfl)⟩, ⟨rfl, fun β => (GOk.off_v (want := false) rfl rfl rfl rfl rfl)⟩, ⟨rfl, fun β => (GOk.off_v (want := false) rfl rfl rfl rfl rfl)⟩, ⟨rfl, fun β => (GOk.off_v (want := false) rfl rfl rfl rfl rfl)⟩, ⟨rfl, fun β => (GOk.off_v (want := false) rfl rfl rfl rfl rfl)⟩, ⟨rfl, fun β => (GOk.off_v (want := false) rfl rfl rfl rfl rfl)⟩, ⟨rfl, fun β => (GOk.off_v (want := false) rfl rfl rfl rfl rfl)⟩, ⟨rfl, fun β => (GOk.off_v (want := false) rfl rfl rfl rfl rfl)⟩, ⟨rfl, fun β => (GOk.off_v (want := false) rfl rfl rfl rfl rfl)⟩, ⟨rfl, fun β => (GOk.plain (op_pick_t rfl (opt 0 rfl) (opc (bc _))) rfl)⟩, trivial⟩
                  clear h
                  intro β a w h
                  change SatL c [.slot 3 (lpVP p1 0), .slot 5 (eqVP p9), .slot 6 (lpVP p10 0), .slot 7 (eqVP (.pointer none)), .slot 21 (slVP S_law04_Ask.ck a_0), .slot 22 (intVP .i64 (a_0.length : Int)), .slot 23 (intVP .i64 x42), .slot 115 (boolVP true), .res (lb p1 24 [bytesCk 32 a_1]), .res (Log_e p9 x94), .res (Log_e (.pointer none) x96), .res (lb p10 41 [one (eqVP h101), one (eqVP h102)]), .res (acc h101 9 1 strC s97.f_Inputs), .res (mapR h102 arrK (fun l => l.length = 32) (fun u y => acc u 9 1 strC y) s97.f_Digests)] a w at h
                  clear β
                  replace h := h.unsep 12 13 rfl rfl (by decide)
                  replace h := h.unsep 11 12 rfl rfl (by decide)
                  replace h := h.conv 11 rfl (R' := RLog_e p10 (some s97)) (RLog_packo (v0 := h101) (v1 := h102) (o := (some s97)))
                  replace h := h.slotc 2 rfl (fun _ _ h => lp_eqv h)
                  replace h := h.sub [0, 1, 2, 3, 4, 5, 6, 7, 8, 9, 10, 11] (by rfl)
                  change SatL c [.slot 3 (lpVP p1 0), .slot 5 (eqVP p9), .slot 6 (eqVP p10), .slot 7 (eqVP (.pointer none)), .slot 21 (slVP S_law04_Ask.ck a_0), .slot 22 (intVP .i64 (a_0.length : Int)), .slot 23 (intVP .i64 x42), .slot 115 (boolVP true), .res (lb p1 24 [bytesCk 32 a_1]), .res (Log_e p9 x94), .res (Log_e (.pointer none) x96), .res (RLog_e p10 (some s97))] a w at h
                  exact ⟨true, hF, h.sub [0, 1, 2, 3, 4, 5, 6, 7, 8, 9, 10, 11] (by rfl)⟩
                · replace hF := ff_of hb111 hF
                  obtain ⟨r103, hr103, hF⟩ := bind_some hF
                  rcases Bool.eq_false_or_eq_true (!decide (r103 = (s97.f_Inputs.length : Int))) with hb112 | hb112
                  · replace hF := tt_of hb112 hF
                    refine region_do (n := 134) [.slot 71 100000 100000 (fun _ _ => (aggVP [bytesCk 32 x91])),
      .slot 72 100000 100000 (fun _ _ => (aggVP [bytesCk 32 x92])),
      .slot 73 100000 100000 (fun _ _ => (boolVP (!decide (x91 = x92)))),
      .slot 74 100000 100000 (fun _ _ => (boolVP (!decide (x91 = x92)))),
      .slot 75 100000 100000 (fun _ _ => (aggVP [bytesCk 32 x93])),
      .slot 76 100000 100000 (fun _ _ => (aggVP [bytesCk 32 x92])),
      .slot 77 100000 100000 (fun _ _ => (boolVP (!decide (x93 = x92)))),
      .slot 78 100000 100000 (fun _ _ => (boolVP (!decide (x93 = x92)))),
      .slot 79 100000 100000 (fun _ _ => (boolVP (!decide (x93 = x92)))),
      .slot 80 100000 100000 (fun _ _ => (eqVP p9)),
      .slot 81 100000 100000 (fun _ _ => (intVP .i64 r103)),
      .res 100000 100000 (fun _ _ => (Log_e p9 x94)),
      .slot 82 100000 100000 (fun _ _ => (lpVP p10 0)),
      .slot 83 100000 100000 (fun _ _ => (lpVP p10 0)),
      .slot 84 100000 100000 (fun _ _ => (lpVP p10 0)),
      .slot 85 100000 100000 (fun _ _ => (eqVP h101)),
      .slot 86 100000 100000 (fun _ _ => (intVP .i64 (s97.f_Inputs.length : Int))),
      .slot 87 100000 100000 (fun _ _ => (boolVP (!decide (r103 = (s97.f_Inputs.length : Int))))),
      .slot 88 100000 100000 (fun _ _ => (boolVP (!decide (r103 = (s97.f_Inputs.length : Int))))),
      .slot 89 100000 100000 (fun _ _ => (boolVP (!decide (r103 = (s97.f_Inputs.length : Int))))),
      .slot 90 100000 100000 (fun _ _ => (eqVP undef)),
      .slot 91 100000 100000 (fun _ _ => (eqVP undef)),
      .slot 92 100000 100000 (fun _ _ => (eqVP undef)),
      .slot 93 100000 100000 (fun _ _ => (eqVP undef)),
      .slot 94 100000 100000 (fun _ _ => (eqVP undef)),
      .slot 95 100000 100000 (fun _ _ => (boolVP true)),
      .slot 96 100000 100000 (fun _ _ => (boolVP true)),
      .slot 97 100000 100000 (fun _ _ => (eqVP undef)),
      .slot 98 100000 100000 (fun _ _ => (eqVP undef)),
      .slot 99 100000 100000 (fun _ _ => (eqVP undef)),
      .slot 100 100000 100000 (fun _ _ => (eqVP undef)),
      .slot 101 100000 100000 (fun _ _ => (boolVP true)),
      .slot 102 100000 100000 (fun _ _ => (boolVP true)),
      .slot 103 100000 100000 (fun _ _ => (eqVP undef)),
      .slot 104 100000 100000 (fun _ _ => (eqVP undef)),
      .slot 105 100000 100000 (fun _ _ => (eqVP undef)),
      .slot 106 100000 100000 (fun _ _ => (eqVP undef)),
      .slot 107 100000 100000 (fun _ _ => (eqVP undef)),
      .slot 108 100000 100000 (fun _ _ => (eqVP undef)),
      .slot 109 100000 100000 (fun _ _ => (eqVP undef)),
      .slot 110 100000 100000 (fun _ _ => (eqVP undef)),
      .slot 111 100000 100000 (fun _ _ => (eqVP undef)),
      .slot 112 100000 100000 (fun _ _ => (eqVP undef)),
      .slot 113 100000 100000 (fun _ _ => (eqVP undef)),
      .slot 114 100000 100000 (fun _ _ => (eqVP undef)),
      .slot 115 100000 100000 (fun _ _ => (boolVP true))] [0, 1, 2, 3, 4, 5, 6, 7, 8, 9, 10, 10, 11, 12, 13, 14, 15, 16, 17, 18, 19, 20, 21, 22, 23, 24, 25, 26, 27, 28, 29, 30, 31, 32, 33, 34, 35, 36, 37, 38, 39, 40, 41, 42, 43, 44] [⟨[4, 11], [], [19], [], some 71⟩, ⟨[5, 12], [], [20], [], some 72⟩, ⟨[19, 20], [], [21], [0, 1], some 73⟩, ⟨[21], [], [22], [0, 1, 2], some 74⟩, ⟨[22, 6, 13], [], [23], [0, 1, 2, 3], some 75⟩, ⟨[22, 5, 12], [], [24], [0, 1, 2, 3], some 76⟩, ⟨[22, 23, 24], [], [25], [0, 1, 2, 3, 4, 5], some 77⟩, ⟨[22, 25], [], [26], [0, 1, 2, 3, 4, 5, 6], some 78⟩, ⟨[26], [], [27], [0, 1, 2, 3, 4, 5, 6, 7], some 79⟩, ⟨[27, 1], [], [28], [0, 1, 2, 3, 4, 5, 6, 7, 8], some 80⟩, ⟨[27, 28], [14], [29, 30], [0, 1, 2, 3, 4, 5, 6, 7, 8, 9], some 81⟩, ⟨[27, 2], [], [31], [0, 1, 2, 3, 4, 5, 6, 7, 8], some 82⟩, ⟨[27, 31], [], [32], [0, 1, 2, 3, 4, 5, 6, 7, 8, 11], some 83⟩, ⟨[27, 32], [], [33], [0, 1, 2, 3, 4, 5, 6, 7, 8, 11, 12], some 84⟩, ⟨[27, 33, 16], [], [34], [0, 1, 2, 3, 4, 5, 6, 7, 8, 11, 12, 13], some 85⟩, ⟨[27, 34, 17], [], [35], [0, 1, 2, 3, 4, 5, 6, 7, 8, 11, 12, 13, 14], some 86⟩, ⟨[27, 29, 35], [], [36], [0, 1, 2, 3, 4, 5, 6, 7, 8, 9, 10, 11, 12, 13, 14, 15], some 87⟩, ⟨[27, 36], [], [37], [0, 1, 2, 3, 4, 5, 6, 7, 8, 9, 10, 11, 12, 13, 14, 15, 16], some 88⟩, ⟨[37], [], [38], [0, 1, 2, 3, 4, 5, 6, 7, 8, 9, 10, 11, 12, 13, 14, 15, 16, 17], some 89⟩, ⟨[38], [], [39], [0, 1, 2, 3, 4, 5, 6, 7, 8, 9, 10, 11, 12, 13, 14, 15, 16, 17, 18], some 90⟩, ⟨[38], [], [40], [0, 1, 2, 3, 4, 5, 6, 7, 8, 9, 10, 11, 12, 13, 14, 15, 16, 17, 18, 19], some 91⟩, ⟨[38], [], [41], [0, 1, 2, 3, 4, 5, 6, 7, 8, 9, 10, 11, 12, 13, 14, 15, 16, 17, 18], some 92⟩, ⟨[38], [], [42], [0, 1, 2, 3, 4, 5, 6, 7, 8, 9, 10, 11, 12, 13, 14, 15, 16, 17, 18, 19, 20, 21], some 93⟩, ⟨[38], [], [43], [0, 1, 2, 3, 4, 5, 6, 7, 8, 9, 10, 11, 12, 13, 14, 15, 16, 17, 18, 19, 20, 21, 22], some 94⟩, ⟨[38], [], [44], [0, 1, 2, 3, 4, 5, 6, 7, 8, 9, 10, 11, 12, 13, 14, 15, 16, 17, 18, 19, 20, 21, 22, 23], some 95⟩, ⟨[44], [], [45], [0, 1, 2, 3, 4, 5, 6, 7, 8, 9, 10, 11, 12, 13, 14, 15, 16, 17, 18, 19, 20, 21, 22, 23, 24], some 96⟩, ⟨[45], [], [46], [0, 1, 2, 3, 4, 5, 6, 7, 8, 9, 10, 11, 12, 13, 14, 15, 16, 17, 18, 19, 20, 21, 22, 23, 24, 25], some 97⟩, ⟨[45], [], [47], [0, 1, 2, 3, 4, 5, 6, 7, 8, 9, 10, 11, 12, 13, 14, 15, 16, 17, 18, 19, 20, 21, 22, 23, 24, 25], some 98⟩, ⟨[45], [], [48], [0, 1, 2, 3, 4, 5, 6, 7, 8, 9, 10, 11, 12, 13, 14, 15, 16, 17, 18, 19, 20, 21, 22, 23, 24, 25, 26, 27], some 99⟩, ⟨[45], [], [49], [0, 1, 2, 3, 4, 5, 6, 7, 8, 9, 10, 11, 12, 13, 14, 15, 16, 17, 18, 19, 20, 21, 22, 23, 24, 25, 26, 27, 28], some 100⟩, ⟨[45], [], [50], [0, 1, 2, 3, 4, 5, 6, 7, 8, 9, 10, 11, 12, 13, 14, 15, 16, 17, 18, 19, 20, 21, 22, 23, 24, 25, 26, 27, 28, 29], some 101⟩, ⟨[50], [], [51], [0, 1, 2, 3, 4, 5, 6, 7, 8, 9, 10, 11, 12, 13, 14, 15, 16, 17, 18, 19, 20, 21, 22, 23, 24, 25, 26, 27, 28, 29, 30], some 102⟩, ⟨[51], [], [52], [0, 1, 2, 3, 4, 5, 6, 7, 8, 9, 10, 11, 12, 13, 14, 15, 16, 17, 18, 19, 20, 21, 22, 23, 24, 25, 26, 27, 28, 29, 30, 31], some 103⟩, ⟨[51], [], [53], [0, 1, 2, 3, 4, 5, 6, 7, 8, 9, 10, 11, 12, 13, 14, 15, 16, 17, 18, 19, 20, 21, 22, 23, 24, 25, 26, 27, 28, 29, 30, 31], some 104⟩, ⟨[51], [], [54], [0, 1, 2, 3, 4, 5, 6, 7, 8, 9, 10, 11, 12, 13, 14, 15, 16, 17, 18, 19, 20, 21, 22, 23, 24, 25, 26, 27, 28, 29, 30, 31, 32, 33], some 105⟩, ⟨[51], [], [55], [0, 1, 2, 3, 4, 5, 6, 7, 8, 9, 10, 11, 12, 13, 14, 15, 16, 17, 18, 19, 20, 21, 22, 23, 24, 25, 26, 27, 28, 29, 30, 31], some 106⟩, ⟨[51], [], [56], [0, 1, 2, 3, 4, 5, 6, 7, 8, 9, 10, 11, 12, 13, 14, 15, 16, 17, 18, 19, 20, 21, 22, 23, 24, 25, 26, 27, 28, 29, 30, 31, 35], some 107⟩, ⟨[51], [], [57], [0, 1, 2, 3, 4, 5, 6, 7, 8, 9, 10, 11, 12, 13, 14, 15, 16, 17, 18, 19, 20, 21, 22, 23, 24, 25, 26, 27, 28, 29, 30, 31, 35, 36], some 108⟩, ⟨[51], [], [58], [0, 1, 2, 3, 4, 5, 6, 7, 8, 9, 10, 11, 12, 13, 14, 15, 16, 17, 18, 19, 20, 21, 22, 23, 24, 25, 26, 27, 28, 29, 30, 31, 35, 36, 37], some 109⟩, ⟨[51], [], [59], [0, 1, 2, 3, 4, 5, 6, 7, 8, 9, 10, 11, 12, 13, 14, 15, 16, 17, 18, 19, 20, 21, 22, 23, 24, 25, 26, 27, 28, 29, 30, 31], some 110⟩, ⟨[51], [], [60], [0, 1, 2, 3, 4, 5, 6, 7, 8, 9, 10, 11, 12, 13, 14, 15, 16, 17, 18, 19, 20, 21, 22, 23, 24, 25, 26, 27, 28, 29, 30, 31, 35, 36, 37, 38, 39], some 111⟩, ⟨[51], [], [61], [0, 1, 2, 3, 4, 5, 6, 7, 8, 9, 10, 11, 12, 13, 14, 15, 16, 17, 18, 19, 20, 21, 22, 23, 24, 25, 26, 27, 28, 29, 30, 31, 35, 36, 37, 38, 39, 40], some 112⟩, ⟨[51], [], [62], [0, 1, 2, 3, 4, 5, 6, 7, 8, 9, 10, 11, 12, 13, 14, 15, 16, 17, 18, 19, 20, 21, 22, 23, 24, 25, 26, 27, 28, 29, 30, 31, 35, 36, 37, 38, 39, 40, 41], some 113⟩, ⟨[51], [], [63], [0, 1, 2, 3, 4, 5, 6, 7, 8, 9, 10, 11, 12, 13, 14, 15, 16, 17, 18, 19, 20, 21, 22, 23, 24, 25, 26, 27, 28, 29, 30, 31, 32, 33, 34, 35, 36, 37, 38, 39, 40, 41, 42], some 114⟩, ⟨[51], [], [64], [0, 1, 2, 3, 4, 5, 6, 7, 8, 9, 10, 11, 12, 13, 14, 15, 16, 17, 18, 19, 20, 21, 22, 23, 24, 25, 26, 27, 28, 29, 30, 31, 32, 33, 34, 35, 36, 37, 38, 39, 40, 41, 42, 43], some 115⟩] [0, 1, 2, 3, 7, 8, 9, 64, 10, 15, 16, 17, 18, 30] mixed hn hG h (by kernel_rfl) ?_ ?_
                    · exact ⟨⟨rfl, fun β => (GOk.plain (op_load_lb [] [bytesCk 32 x91] [] 1 Tryd.isAgg24 Tryd.sizeOf24 (opt 0 rfl) rfl rfl rfl) rfl)⟩, ⟨rfl, fun β => (GOk.plain (op_load_lb [] [bytesCk 32 x92] [] 1 Tryd.isAgg24 Tryd.sizeOf24 (opt 0 rfl) rfl rfl rfl) rfl)⟩, ⟨rfl, fun β => (GOk.plain (op_bin (bin_aneq Tryd.underlying24 Tryd.underlying5 Tryd.type5 Tryd.sizeOf5 Tryd.isAgg5 Tryd.eqGuardType24) (opt 0 rfl) (opt 1 rfl)) rfl)⟩, ⟨rfl, fun β => (GOk.plain (op_move (opt 0 rfl)) rfl)⟩, ⟨rfl, fun β => (GOk.on_eq hb110 rfl rfl rfl (op_load_lb [] [bytesCk 32 x93] [] 1 Tryd.isAgg24 Tryd.sizeOf24 (opt 0 rfl) rfl rfl rfl))⟩, ⟨rfl, fun β => (GOk.on_eq hb110 rfl rfl rfl (op_load_lb [] [bytesCk 32 x92] [] 1 Tryd.isAgg24 Tryd.sizeOf24 (opt 0 rfl) rfl rfl rfl))⟩, ⟨rfl, fun β => (GOk.on_eq hb110 rfl rfl rfl (op_bin (bin_aneq Tryd.underlying24 Tryd.underlying5 Tryd.type5 Tryd.sizeOf5 Tryd.isAgg5 Tryd.eqGuardType24) (opt 0 rfl) (opt 1 rfl)))⟩, ⟨rfl, fun β => (GOk.plain (op_pick_f hb110 (opt 0 rfl) (opt 1 rfl)) rfl)⟩, ⟨rfl, fun β => (GOk.plain (op_move (opt 0 rfl)) rfl)⟩, ⟨rfl, fun β => (GOk.on_eq hb111 rfl rfl rfl (op_move (opt 0 rfl)))⟩, ⟨rfl, fun β => (GOk.on_eq hb111 rfl rfl rfl (op_call Tryd.call15 (digest_Log_Count_oke hr103) ⟨(opt 0 rfl), trivial⟩))⟩, ⟨rfl, fun β => (GOk.on_eq hb111 rfl rfl rfl (op_move (opt 0 rfl)))⟩, ⟨rfl, fun β => (GOk.on_eq hb111 rfl rfl rfl (op_nilCheck (opt 0 rfl) (ptr_lp _ _)))⟩, ⟨rfl, fun β => (GOk.on_eq hb111 rfl rfl rfl (op_fieldAddr_lbm (p := p10) (n := 1) 0 0 Tryd.underlying41 rfl Tryd.sizeOf22 (by decide) (opt 0 rfl) rfl))⟩, ⟨rfl, fun β => (GOk.on_eq hb111 rfl rfl rfl (op_load_lb1 [] [one (eqVP h102)] 1 Tryd.isAgg22 (opt 0 rfl) rfl rfl))⟩, ⟨rfl, fun β => (GOk.on_eq hb111 rfl rfl rfl (op_len_sl Tryd.underlying22 (opacc 0 1 rfl rfl)))⟩, ⟨rfl, fun β => (GOk.on_eq hb111 rfl rfl rfl (op_bin bin_neq (opt 0 rfl) (opt 1 rfl)))⟩, ⟨rfl, fun β => (GOk.plain (op_pick_f hb111 (opt 0 rfl) (opt 1 rfl)) rfl)⟩, ⟨rfl, fun β => (GOk.plain (op_move (opt 0 rfl)) rfl)⟩, ⟨rfl, fun β => (GOk.off_v (want := false) hb112 rfl rfl rfl rfl)⟩, ⟨rfl, fun β => (GOk.off_v (want := false) hb112 rfl rfl rfl rfl)⟩, ⟨rfl, fun β => (GOk.off_v (want := false) hb112 rfl rfl rfl rfl)⟩, ⟨rfl, fun β => (GOk.off_v (want := false) hb112 rfl rfl rfl rfl)⟩, ⟨rfl, fun β => (GOk.off_v (want := false) hb112 rfl rfl rfl rfl)⟩, ⟨rfl, fun β => (GOk.plain (op_pick_t hb112 (opt 0 rfl) (opc (bc _))) rfl)⟩, ⟨rfl, fun β => (GOk.plain (op_move (opt 0 rfl)) rfl)⟩, ⟨rfl, fun β => (GOk.off_v (want := false) rfl rfl rfl rfl rfl)⟩, ⟨rfl, fun β => (GOk.off_v (want := false) rfl rfl rfl rfl rfl)⟩, ⟨rfl, fun β => (GOk.off_v (want := false) rfl rfl rfl rfl rfl)⟩, ⟨rfl, fun β => (GOk.off_v (want := false) rfl rfl rfl rfl rfl)⟩, ⟨rfl, fun β => (GOk.plain (op_pick_t rfl (opt 0 rfl) (opc (bc _))) rfl)⟩, ⟨rfl, fun β => (GOk.plain (op_move (opt 0 rfl)) rfl)⟩, ⟨rfl, fun β => (GOk.off_v (want := false) rfl rfl rfl rfl rfl)⟩, ⟨rfl, fun β => (GOk.off_v (want := false) rfl rfl rfl rfl rfl)⟩, ⟨rfl, fun β => (GOk.off_v (want := false) rfl rfl rfl rfl rfl)⟩, ⟨rfl, fun β => (GOk.off_v (want := false) rfl rfl rfl rfl rfl)⟩, ⟨rfl, fun β => (GOk.off_v (want := false) rfl rfl rfl rfl rfl)⟩, ⟨rfl, fun β => (GOk.off_v (want := false) rfl rfl rfl rfl rfl)⟩, ⟨rfl, fun β => (GOk.off_v (want := false) rfl rfl rfl rfl rfl)⟩, ⟨rfl, fun β => (GOk.off_v (want := false) rfl rfl rfl rfl rfl)⟩, ⟨rfl, fun β => (GOk.off_v (want := false) rfl rfl rfl rfl rfl)⟩, ⟨rfl, fun β => (GOk.off_v (want := false) rfl rfl rfl rfl rfl)⟩, ⟨rfl, fun β => (GOk.off_v (want := false) rfl rfl rfl rfl rfl)⟩, ⟨rfl, fun β => (GOk.off_v (want := false) rfl rfl rfl rfl rfl)⟩, ⟨rfl, fun β => (GOk.plain (op_pick_t rfl (opt 0 rfl) (opc (bc _))) rfl)⟩, trivial⟩
                    clear h
                    intro β a w h
                    change SatL c [.slot 3 (lpVP p1 0), .slot 5 (eqVP p9), .slot 6 (lpVP p10 0), .slot 7 (eqVP (.pointer none)), .slot 21 (slVP S_law04_Ask.ck a_0), .slot 22 (intVP .i64 (a_0.length : Int)), .slot 23 (intVP .i64 x42), .slot 115 (boolVP true), .res (lb p1 24 [bytesCk 32 a_1]), .res (Log_e (.pointer none) x96), .res (lb p10 41 [one (eqVP h101), one (eqVP h102)]), .res (acc h101 9 1 strC s97.f_Inputs), .res (mapR h102 arrK (fun l => l.length = 32) (fun u y => acc u 9 1 strC y) s97.f_Digests), .res (Log_e p9 x94)] a w at h
                    clear β
                    replace h := h.unsep 11 12 rfl rfl (by decide)
                    replace h := h.unsep 10 11 rfl rfl (by decide)
                    replace h := h.conv 10 rfl (R' := RLog_e p10 (some s97)) (RLog_packo (v0 := h101) (v1 := h102) (o := (some s97)))
                    replace h := h.slotc 2 rfl (fun _ _ h => lp_eqv h)
                    replace h := h.sub [0, 1, 2, 3, 4, 5, 6, 7, 8, 9, 13, 10] (by rfl)
                    change SatL c [.slot 3 (lpVP p1 0), .slot 5 (eqVP p9), .slot 6 (eqVP p10), .slot 7 (eqVP (.pointer none)), .slot 21 (slVP S_law04_Ask.ck a_0), .slot 22 (intVP .i64 (a_0.length : Int)), .slot 23 (intVP .i64 x42), .slot 115 (boolVP true), .res (lb p1 24 [bytesCk 32 a_1]), .res (Log_e (.pointer none) x96), .res (Log_e p9 x94), .res (RLog_e p10 (some s97))] a w at h
                    exact ⟨true, hF, h.sub [0, 1, 2, 3, 4, 5, 6, 7, 8, 10, 9, 11] (by rfl)⟩
                  · replace hF := ff_of hb112 hF
                    obtain ⟨r104, hr104, hF⟩ := bind_some hF
                    obtain ⟨r105, hr105, hF⟩ := bind_some hF
                    rcases Bool.eq_false_or_eq_true (!(r104 == r105)) with hb113 | hb113
                    · replace hF := tt_of hb113 hF
                      refine region_do (n := 134) [.slot 71 100000 100000 (fun _ _ => (aggVP [bytesCk 32 x91])),
      .slot 72 100000 100000 (fun _ _ => (aggVP [bytesCk 32 x92])),
      .slot 73 100000 100000 (fun _ _ => (boolVP (!decide (x91 = x92)))),
      .slot 74 100000 100000 (fun _ _ => (boolVP (!decide (x91 = x92)))),
      .slot 75 100000 100000 (fun _ _ => (aggVP [bytesCk 32 x93])),
      .slot 76 100000 100000 (fun _ _ => (aggVP [bytesCk 32 x92])),
      .slot 77 100000 100000 (fun _ _ => (boolVP (!decide (x93 = x92)))),
      .slot 78 100000 100000 (fun _ _ => (boolVP (!decide (x93 = x92)))),
      .slot 79 100000 100000 (fun _ _ => (boolVP (!decide (x93 = x92)))),
      .slot 80 100000 100000 (fun _ _ => (eqVP p9)),
      .slot 81 100000 100000 (fun _ _ => (intVP .i64 r103)),
      .res 100000 100000 (fun _ _ => (Log_e p9 x94)),
      .slot 82 100000 100000 (fun _ _ => (lpVP p10 0)),
      .slot 83 100000 100000 (fun _ _ => (lpVP p10 0)),
      .slot 84 100000 100000 (fun _ _ => (lpVP p10 0)),
      .slot 85 100000 100000 (fun _ _ => (eqVP h101)),
      .slot 86 100000 100000 (fun _ _ => (intVP .i64 (s97.f_Inputs.length : Int))),
      .slot 87 100000 100000 (fun _ _ => (boolVP (!decide (r103 = (s97.f_Inputs.length : Int))))),
      .slot 88 100000 100000 (fun _ _ => (boolVP (!decide (r103 = (s97.f_Inputs.length : Int))))),
      .slot 89 100000 100000 (fun _ _ => (boolVP (!decide (r103 = (s97.f_Inputs.length : Int))))),
      .slot 90 100000 100000 (fun _ _ => (eqVP p9)),
      .slot 91 100000 100000 (fun _ _ => (boolVP r104)),
      .res 100000 100000 (fun _ _ => (Log_e p9 x94)),
      .slot 92 100000 100000 (fun _ _ => (lpVP p10 0)),
      .slot 93 100000 100000 (fun _ _ => (boolVP r105)),
      .res 100000 100000 (fun _ _ => (lb p10 41 [one (eqVP h101), one (eqVP h102)])),
      .res 100000 100000 (fun _ _ => (acc h101 9 1 strC s97.f_Inputs)),
      .res 100000 100000 (fun _ _ => (mapR h102 arrK (fun l => l.length = 32) (fun u y => acc u 9 1 strC y) s97.f_Digests)),
      .slot 94 100000 100000 (fun _ _ => (boolVP (!(r104 == r105)))),
      .slot 95 100000 100000 (fun _ _ => (boolVP (!(r104 == r105)))),
      .slot 96 100000 100000 (fun _ _ => (boolVP (!(r104 == r105)))),
      .slot 97 100000 100000 (fun _ _ => (eqVP undef)),
      .slot 98 100000 100000 (fun _ _ => (eqVP undef)),
      .slot 99 100000 100000 (fun _ _ => (eqVP undef)),
      .slot 100 100000 100000 (fun _ _ => (eqVP undef)),
      .slot 101 100000 100000 (fun _ _ => (boolVP true)),
      .slot 102 100000 100000 (fun _ _ => (boolVP true)),
      .slot 103 100000 100000 (fun _ _ => (eqVP undef)),
      .slot 104 100000 100000 (fun _ _ => (eqVP undef)),
      .slot 105 100000 100000 (fun _ _ => (eqVP undef)),
      .slot 106 100000 100000 (fun _ _ => (eqVP undef)),
      .slot 107 100000 100000 (fun _ _ => (eqVP undef)),
      .slot 108 100000 100000 (fun _ _ => (eqVP undef)),
      .slot 109 100000 100000 (fun _ _ => (eqVP undef)),
      .slot 110 100000 100000 (fun _ _ => (eqVP undef)),
      .slot 111 100000 100000 (fun _ _ => (eqVP undef)),
      .slot 112 100000 100000 (fun _ _ => (eqVP undef)),
      .slot 113 100000 100000 (fun _ _ => (eqVP undef)),
      .slot 114 100000 100000 (fun _ _ => (eqVP undef)),
      .slot 115 100000 100000 (fun _ _ => (boolVP true))] [0, 1, 2, 3, 4, 5, 6, 7, 8, 9, 10, 10, 11, 12, 13, 14, 15, 16, 17, 18, 19, 20, 20, 21, 22, 22, 22, 22, 23, 24, 25, 26, 27, 28, 29, 30, 31, 32, 33, 34, 35, 36, 37, 38, 39, 40, 41, 42, 43, 44] [⟨[4, 11], [], [19], [], some 71⟩, ⟨[5, 12], [], [20], [], some 72⟩, ⟨[19, 20], [], [21], [0, 1], some 73⟩, ⟨[21], [], [22], [0, 1, 2], some 74⟩, ⟨[22, 6, 13], [], [23], [0, 1, 2, 3], some 75⟩, ⟨[22, 5, 12], [], [24], [0, 1, 2, 3], some 76⟩, ⟨[22, 23, 24], [], [25], [0, 1, 2, 3, 4, 5], some 77⟩, ⟨[22, 25], [], [26], [0, 1, 2, 3, 4, 5, 6], some 78⟩, ⟨[26], [], [27], [0, 1, 2, 3, 4, 5, 6, 7], some 79⟩, ⟨[27, 1], [], [28], [0, 1, 2, 3, 4, 5, 6, 7, 8], some 80⟩, ⟨[27, 28], [14], [29, 30], [0, 1, 2, 3, 4, 5, 6, 7, 8, 9], some 81⟩, ⟨[27, 2], [], [31], [0, 1, 2, 3, 4, 5, 6, 7, 8], some 82⟩, ⟨[27, 31], [], [32], [0, 1, 2, 3, 4, 5, 6, 7, 8, 11], some 83⟩, ⟨[27, 32], [], [33], [0, 1, 2, 3, 4, 5, 6, 7, 8, 11, 12], some 84⟩, ⟨[27, 33, 16], [], [34], [0, 1, 2, 3, 4, 5, 6, 7, 8, 11, 12, 13], some 85⟩, ⟨[27, 34, 17], [], [35], [0, 1, 2, 3, 4, 5, 6, 7, 8, 11, 12, 13, 14], some 86⟩, ⟨[27, 29, 35], [], [36], [0, 1, 2, 3, 4, 5, 6, 7, 8, 9, 10, 11, 12, 13, 14, 15], some 87⟩, ⟨[27, 36], [], [37], [0, 1, 2, 3, 4, 5, 6, 7, 8, 9, 10, 11, 12, 13, 14, 15, 16], some 88⟩, ⟨[37], [], [38], [0, 1, 2, 3, 4, 5, 6, 7, 8, 9, 10, 11, 12, 13, 14, 15, 16, 17], some 89⟩, ⟨[38, 1], [], [39], [0, 1, 2, 3, 4, 5, 6, 7, 8, 9, 10, 11, 12, 13, 14, 15, 16, 17, 18], some 90⟩, ⟨[38, 39], [30], [40, 41], [0, 1, 2, 3, 4, 5, 6, 7, 8, 9, 10, 11, 12, 13, 14, 15, 16, 17, 18, 19], some 91⟩, ⟨[38, 2], [], [42], [0, 1, 2, 3, 4, 5, 6, 7, 8, 9, 10, 11, 12, 13, 14, 15, 16, 17, 18], some 92⟩, ⟨[38, 42], [16, 17, 18], [43, 44, 45, 46], [0, 1, 2, 3, 4, 5, 6, 7, 8, 9, 10, 11, 12, 13, 14, 15, 16, 17, 18, 19, 20, 21], some 93⟩, ⟨[38, 40, 43], [], [47], [0, 1, 2, 3, 4, 5, 6, 7, 8, 9, 10, 11, 12, 13, 14, 15, 16, 17, 18, 19, 20, 21, 22], some 94⟩, ⟨[38, 47], [], [48], [0, 1, 2, 3, 4, 5, 6, 7, 8, 9, 10, 11, 12, 13, 14, 15, 16, 17, 18, 19, 20, 21, 22, 23], some 95⟩, ⟨[48], [], [49], [0, 1, 2, 3, 4, 5, 6, 7, 8, 9, 10, 11, 12, 13, 14, 15, 16, 17, 18, 19, 20, 21, 22, 23, 24], some 96⟩, ⟨[49], [], [50], [0, 1, 2, 3, 4, 5, 6, 7, 8, 9, 10, 11, 12, 13, 14, 15, 16, 17, 18, 19, 20, 21, 22, 23, 24, 25], some 97⟩, ⟨[49], [], [51], [0, 1, 2, 3, 4, 5, 6, 7, 8, 9, 10, 11, 12, 13, 14, 15, 16, 17, 18, 19, 20, 21, 22, 23, 24, 25], some 98⟩, ⟨[49], [], [52], [0, 1, 2, 3, 4, 5, 6, 7, 8, 9, 10, 11, 12, 13, 14, 15, 16, 17, 18, 19, 20, 21, 22, 23, 24, 25, 26, 27], some 99⟩, ⟨[49], [], [53], [0, 1, 2, 3, 4, 5, 6, 7, 8, 9, 10, 11, 12, 13, 14, 15, 16, 17, 18, 19, 20, 21, 22, 23, 24, 25, 26, 27, 28], some 100⟩, ⟨[49], [], [54], [0, 1, 2, 3, 4, 5, 6, 7, 8, 9, 10, 11, 12, 13, 14, 15, 16, 17, 18, 19, 20, 21, 22, 23, 24, 25, 26, 27, 28, 29], some 101⟩, ⟨[54], [], [55], [0, 1, 2, 3, 4, 5, 6, 7, 8, 9, 10, 11, 12, 13, 14, 15, 16, 17, 18, 19, 20, 21, 22, 23, 24, 25, 26, 27, 28, 29, 30], some 102⟩, ⟨[55], [], [56], [0, 1, 2, 3, 4, 5, 6, 7, 8, 9, 10, 11, 12, 13, 14, 15, 16, 17, 18, 19, 20, 21, 22, 23, 24, 25, 26, 27, 28, 29, 30, 31], some 103⟩, ⟨[55], [], [57], [0, 1, 2, 3, 4, 5, 6, 7, 8, 9, 10, 11, 12, 13, 14, 15, 16, 17, 18, 19, 20, 21, 22, 23, 24, 25, 26, 27, 28, 29, 30, 31], some 104⟩, ⟨[55], [], [58], [0, 1, 2, 3, 4, 5, 6, 7, 8, 9, 10, 11, 12, 13, 14, 15, 16, 17, 18, 19, 20, 21, 22, 23, 24, 25, 26, 27, 28, 29, 30, 31, 32, 33], some 105⟩, ⟨[55], [], [59], [0, 1, 2, 3, 4, 5, 6, 7, 8, 9, 10, 11, 12, 13, 14, 15, 16, 17, 18, 19, 20, 21, 22, 23, 24, 25, 26, 27, 28, 29, 30, 31], some 106⟩, ⟨[55], [], [60], [0, 1, 2, 3, 4, 5, 6, 7, 8, 9, 10, 11, 12, 13, 14, 15, 16, 17, 18, 19, 20, 21, 22, 23, 24, 25, 26, 27, 28, 29, 30, 31, 35], some 107⟩, ⟨[55], [], [61], [0, 1, 2, 3, 4, 5, 6, 7, 8, 9, 10, 11, 12, 13, 14, 15, 16, 17, 18, 19, 20, 21, 22, 23, 24, 25, 26, 27, 28, 29, 30, 31, 35, 36], some 108⟩, ⟨[55], [], [62], [0, 1, 2, 3, 4, 5, 6, 7, 8, 9, 10, 11, 12, 13, 14, 15, 16, 17, 18, 19, 20, 21, 22, 23, 24, 25, 26, 27, 28, 29, 30, 31, 35, 36, 37], some 109⟩, ⟨[55], [], [63], [0, 1, 2, 3, 4, 5, 6, 7, 8, 9, 10, 11, 12, 13, 14, 15, 16, 17, 18, 19, 20, 21, 22, 23, 24, 25, 26, 27, 28, 29, 30, 31], some 110⟩, ⟨[55], [], [64], [0, 1, 2, 3, 4, 5, 6, 7, 8, 9, 10, 11, 12, 13, 14, 15, 16, 17, 18, 19, 20, 21, 22, 23, 24, 25, 26, 27, 28, 29, 30, 31, 35, 36, 37, 38, 39], some 111⟩, ⟨[55], [], [65], [0, 1, 2, 3, 4, 5, 6, 7, 8, 9, 10, 11, 12, 13, 14, 15, 16, 17, 18, 19, 20, 21, 22, 23, 24, 25, 26, 27, 28, 29, 30, 31, 35, 36, 37, 38, 39, 40], some 112⟩, ⟨[55], [], [66], [0, 1, 2, 3, 4, 5, 6, 7, 8, 9, 10, 11, 12, 13, 14, 15, 16, 17, 18, 19, 20, 21, 22, 23, 24, 25, 26, 27, 28, 29, 30, 31, 35, 36, 37, 38, 39, 40, 41], some 113⟩, ⟨[55], [], [67], [0, 1, 2, 3, 4, 5, 6, 7, 8, 9, 10, 11, 12, 13, 14, 15, 16, 17, 18, 19, 20, 21, 22, 23, 24, 25, 26, 27, 28, 29, 30, 31, 32, 33, 34, 35, 36, 37, 38, 39, 40, 41, 42], some 114⟩, ⟨[55], [], [68], [0, 1, 2, 3, 4, 5, 6, 7, 8, 9, 10, 11, 12, 13, 14, 15, 16, 17, 18, 19, 20, 21, 22, 23, 24, 25, 26, 27, 28, 29, 30, 31, 32, 33, 34, 35, 36, 37, 38, 39, 40, 41, 42, 43], some 115⟩] [0, 1, 2, 3, 7, 8, 9, 68, 10, 15, 41, 44, 45, 46] mixed hn hG h (by kernel_rfl) ?_ ?_
                      · exact ⟨⟨rfl, fun β => (GOk.plain (op_load_lb [] [bytesCk 32 x91] [] 1 Tryd.isAgg24 Tryd.sizeOf24 (opt 0 rfl) rfl rfl rfl) rfl)⟩, ⟨rfl, fun β => (GOk.plain (op_load_lb [] [bytesCk 32 x92] [] 1 Tryd.isAgg24 Tryd.sizeOf24 (opt 0 rfl) rfl rfl rfl) rfl)⟩, ⟨rfl, fun β => (GOk.plain (op_bin (bin_aneq Tryd.underlying24 Tryd.underlying5 Tryd.type5 Tryd.sizeOf5 Tryd.isAgg5 Tryd.eqGuardType24) (opt 0 rfl) (opt 1 rfl)) rfl)⟩, ⟨rfl, fun β => (GOk.plain (op_move (opt 0 rfl)) rfl)⟩, ⟨rfl, fun β => (GOk.on_eq hb110 rfl rfl rfl (op_load_lb [] [bytesCk 32 x93] [] 1 Tryd.isAgg24 Tryd.sizeOf24 (opt 0 rfl) rfl rfl rfl))⟩, ⟨rfl, fun β => (GOk.on_eq hb110 rfl rfl rfl (op_load_lb [] [bytesCk 32 x92] [] 1 Tryd.isAgg24 Tryd.sizeOf24 (opt 0 rfl) rfl rfl rfl))⟩, ⟨rfl, fun β => (GOk.on_eq hb110 rfl rfl rfl (op_bin (bin_aneq Tryd.underlying24 Tryd.underlying5 Tryd.type5 Tryd.sizeOf5 Tryd.isAgg5 Tryd.eqGuardType24) (opt 0 rfl) (opt 1 rfl)))⟩, ⟨rfl, fun β => (GOk.plain (op_pick_f hb110 (opt 0 rfl) (opt 1 rfl)) rfl)⟩, ⟨rfl, fun β => (GOk.plain (op_move (opt 0 rfl)) rfl)⟩, ⟨rfl, fun β => (GOk.on_eq hb111 rfl rfl rfl (op_move (opt 0 rfl)))⟩, ⟨rfl, fun β => (GOk.on_eq hb111 rfl rfl rfl (op_call Tryd.call15 (digest_Log_Count_oke hr103) ⟨(opt 0 rfl), trivial⟩))⟩, ⟨rfl, fun β => (GOk.on_eq hb111 rfl rfl rfl (op_move (opt 0 rfl)))⟩, ⟨rfl, fun β => (GOk.on_eq hb111 rfl rfl rfl (op_nilCheck (opt 0 rfl) (ptr_lp _ _)))⟩, ⟨rfl, fun β => (GOk.on_eq hb111 rfl rfl rfl (op_fieldAddr_lbm (p := p10) (n := 1) 0 0 Tryd.underlying41 rfl Tryd.sizeOf22 (by decide) (opt 0 rfl) rfl))⟩, ⟨rfl, fun β => (GOk.on_eq hb111 rfl rfl rfl (op_load_lb1 [] [one (eqVP h102)] 1 Tryd.isAgg22 (opt 0 rfl) rfl rfl))⟩, ⟨rfl, fun β => (GOk.on_eq hb111 rfl rfl rfl (op_len_sl Tryd.underlying22 (opacc 0 1 rfl rfl)))⟩, ⟨rfl, fun β => (GOk.on_eq hb111 rfl rfl rfl (op_bin bin_neq (opt 0 rfl) (opt 1 rfl)))⟩, ⟨rfl, fun β => (GOk.plain (op_pick_f hb111 (opt 0 rfl) (opt 1 rfl)) rfl)⟩, ⟨rfl, fun β => (GOk.plain (op_move (opt 0 rfl)) rfl)⟩, ⟨rfl, fun β => (GOk.on_eq hb112 rfl rfl rfl (op_move (opt 0 rfl)))⟩, ⟨rfl, fun β => (GOk.on_eq hb112 rfl rfl rfl (op_call Tryd.call16 (digest_Log_Clash_oke hr104) ⟨(opt 0 rfl), trivial⟩))⟩, ⟨rfl, fun β => (GOk.on_eq hb112 rfl rfl rfl (op_move (opt 0 rfl)))⟩, ⟨rfl, fun β => (GOk.on_eq hb112 rfl rfl rfl (op_call Tryd.call21 (ref04_Log_Clash_oku hr105) ⟨(lp_eqo 0 rfl), trivial⟩))⟩, ⟨rfl, fun β => (GOk.on_eq hb112 rfl rfl rfl (op_bin (bin_bneq Tryd.underlying4) (opt 0 rfl) (opt 1 rfl)))⟩, ⟨rfl, fun β => (GOk.plain (op_pick_f hb112 (opt 0 rfl) (opt 1 rfl)) rfl)⟩, ⟨rfl, fun β => (GOk.plain (op_move (opt 0 rfl)) rfl)⟩, ⟨rfl, fun β => (GOk.off_v (want := false) hb113 rfl rfl rfl rfl)⟩, ⟨rfl, fun β => (GOk.off_v (want := false) hb113 rfl rfl rfl rfl)⟩, ⟨rfl, fun β => (GOk.off_v (want := false) hb113 rfl rfl rfl rfl)⟩, ⟨rfl, fun β => (GOk.off_v (want := false) hb113 rfl rfl rfl rfl)⟩, ⟨rfl, fun β => (GOk.plain (op_pick_t hb113 (opt 0 rfl) (opc (bc _))) rfl)⟩, ⟨rfl, fun β => (GOk.plain (op_move (opt 0 rfl)) rfl)⟩, ⟨rfl, fun β => (GOk.off_v (want := false) rfl rfl rfl rfl rfl)⟩, ⟨rfl, fun β => (GOk.off_v (want := false) rfl rfl rfl rfl rfl)⟩, ⟨rfl, fun β => (GOk.off_v (want := false) rfl rfl rfl rfl rfl)⟩, ⟨rfl, fun β => (GOk.off_v (want := false) rfl rfl rfl rfl rfl)⟩, ⟨rfl, fun β => (GOk.off_v (want := false) rfl rfl rfl rfl rfl)⟩, ⟨rfl, fun β => (GOk.off_v (want := false) rfl rfl rfl rfl rfl)⟩, ⟨rfl, fun β => (GOk.off_v (want := false) rfl rfl rfl rfl rfl)⟩, ⟨rfl, fun β => (GOk.off_v (want := false) rfl rfl rfl rfl rfl)⟩, ⟨rfl, fun β => (GOk.off_v (want := false) rfl rfl rfl rfl rfl)⟩, ⟨rfl, fun β => (GOk.off_v (want := false) rfl rfl rfl rfl rfl)⟩, ⟨rfl, fun β => (GOk.off_v (want := false) rfl rfl rfl rfl rfl)⟩, ⟨rfl, fun β => (GOk.off_v (want := false) rfl rfl rfl rfl rfl)⟩, ⟨rfl, fun β => (GOk.plain (op_pick_t rfl (opt 0 rfl) (opc (bc _))) rfl)⟩, trivial⟩
                      clear h
                      intro β a w h
                      change SatL c [.slot 3 (lpVP p1 0), .slot 5 (eqVP p9), .slot 6 (lpVP p10 0), .slot 7 (eqVP (.pointer none)), .slot 21 (slVP S_law04_Ask.ck a_0), .slot 22 (intVP .i64 (a_0.length : Int)), .slot 23 (intVP .i64 x42), .slot 115 (boolVP true), .res (lb p1 24 [bytesCk 32 a_1]), .res (Log_e (.pointer none) x96), .res (Log_e p9 x94), .res (lb p10 41 [one (eqVP h101), one (eqVP h102)]), .res (acc h101 9 1 strC s97.f_Inputs), .res (mapR h102 arrK (fun l => l.length = 32) (fun u y => acc u 9 1 strC y) s97.f_Digests)] a w at h
                      clear β
                      replace h := h.unsep 12 13 rfl rfl (by decide)
                      replace h := h.unsep 11 12 rfl rfl (by decide)
                      replace h := h.conv 11 rfl (R' := RLog_e p10 (some s97)) (RLog_packo (v0 := h101) (v1 := h102) (o := (some s97)))
                      replace h := h.slotc 2 rfl (fun _ _ h => lp_eqv h)
                      replace h := h.sub [0, 1, 2, 3, 4, 5, 6, 7, 8, 9, 10, 11] (by rfl)
                      change SatL c [.slot 3 (lpVP p1 0), .slot 5 (eqVP p9), .slot 6 (eqVP p10), .slot 7 (eqVP (.pointer none)), .slot 21 (slVP S_law04_Ask.ck a_0), .slot 22 (intVP .i64 (a_0.length : Int)), .slot 23 (intVP .i64 x42), .slot 115 (boolVP true), .res (lb p1 24 [bytesCk 32 a_1]), .res (Log_e (.pointer none) x96), .res (Log_e p9 x94), .res (RLog_e p10 (some s97))] a w at h
                      exact ⟨true, hF, h.sub [0, 1, 2, 3, 4, 5, 6, 7, 8, 10, 9, 11] (by rfl)⟩
                    · replace hF := ff_of hb113 hF
                      obtain ⟨r106, hr106, hF⟩ := bind_some hF
                      rcases Bool.eq_false_or_eq_true (!r106) with hb114 | hb114
                      · replace hF := tt_of hb114 hF
                        refine region_do (n := 134) [.slot 71 100000 100000 (fun _ _ => (aggVP [bytesCk 32 x91])),
      .slot 72 100000 100000 (fun _ _ => (aggVP [bytesCk 32 x92])),
      .slot 73 100000 100000 (fun _ _ => (boolVP (!decide (x91 = x92)))),
      .slot 74 100000 100000 (fun _ _ => (boolVP (!decide (x91 = x92)))),
      .slot 75 100000 100000 (fun _ _ => (aggVP [bytesCk 32 x93])),
      .slot 76 100000 100000 (fun _ _ => (aggVP [bytesCk 32 x92])),
      .slot 77 100000 100000 (fun _ _ => (boolVP (!decide (x93 = x92)))),
      .slot 78 100000 100000 (fun _ _ => (boolVP (!decide (x93 = x92)))),
      .slot 79 100000 100000 (fun _ _ => (boolVP (!decide (x93 = x92)))),
      .slot 80 100000 100000 (fun _ _ => (eqVP p9)),
      .slot 81 100000 100000 (fun _ _ => (intVP .i64 r103)),
      .res 100000 100000 (fun _ _ => (Log_e p9 x94)),
      .slot 82 100000 100000 (fun _ _ => (lpVP p10 0)),
      .slot 83 100000 100000 (fun _ _ => (lpVP p10 0)),
      .slot 84 100000 100000 (fun _ _ => (lpVP p10 0)),
      .slot 85 100000 100000 (fun _ _ => (eqVP h101)),
      .slot 86 100000 100000 (fun _ _ => (intVP .i64 (s97.f_Inputs.length : Int))),
      .slot 87 100000 100000 (fun _ _ => (boolVP (!decide (r103 = (s97.f_Inputs.length : Int))))),
      .slot 88 100000 100000 (fun _ _ => (boolVP (!decide (r103 = (s97.f_Inputs.length : Int))))),
      .slot 89 100000 100000 (fun _ _ => (boolVP (!decide (r103 = (s97.f_Inputs.length : Int))))),
      .slot 90 100000 100000 (fun _ _ => (eqVP p9)),
      .slot 91 100000 100000 (fun _ _ => (boolVP r104)),
      .res 100000 100000 (fun _ _ => (Log_e p9 x94)),
      .slot 92 100000 100000 (fun _ _ => (lpVP p10 0)),
      .slot 93 100000 100000 (fun _ _ => (boolVP r105)),
      .res 100000 100000 (fun _ _ => (lb p10 41 [one (eqVP h101), one (eqVP h102)])),
      .res 100000 100000 (fun _ _ => (acc h101 9 1 strC s97.f_Inputs)),
      .res 100000 100000 (fun _ _ => (mapR h102 arrK (fun l => l.length = 32) (fun u y => acc u 9 1 strC y) s97.f_Digests)),
      .slot 94 100000 100000 (fun _ _ => (boolVP (!(r104 == r105)))),
      .slot 95 100000 100000 (fun _ _ => (boolVP (!(r104 == r105)))),
      .slot 96 100000 100000 (fun _ _ => (boolVP (!(r104 == r105)))),
      .slot 97 100000 100000 (fun _ _ => (eqVP p9)),
      .slot 98 100000 100000 (fun _ _ => (aggVP [bytesCk 32 x91])),
      .slot 99 100000 100000 (fun _ _ => (boolVP r106)),
      .res 100000 100000 (fun _ _ => (Log_e p9 x94)),
      .slot 100 100000 100000 (fun _ _ => (boolVP (!r106))),
      .slot 101 100000 100000 (fun _ _ => (boolVP (!r106))),
      .slot 102 100000 100000 (fun _ _ => (boolVP (!r106))),
      .slot 103 100000 100000 (fun _ _ => (eqVP undef)),
      .slot 104 100000 100000 (fun _ _ => (eqVP undef)),
      .slot 105 100000 100000 (fun _ _ => (eqVP undef)),
      .slot 106 100000 100000 (fun _ _ => (eqVP undef)),
      .slot 107 100000 100000 (fun _ _ => (eqVP undef)),
      .slot 108 100000 100000 (fun _ _ => (eqVP undef)),
      .slot 109 100000 100000 (fun _ _ => (eqVP undef)),
      .slot 110 100000 100000 (fun _ _ => (eqVP undef)),
      .slot 111 100000 100000 (fun _ _ => (eqVP undef)),
      .slot 112 100000 100000 (fun _ _ => (eqVP undef)),
      .slot 113 100000 100000 (fun _ _ => (eqVP undef)),
      .slot 114 100000 100000 (fun _ _ => (eqVP undef)),
      .slot 115 100000 100000 (fun _ _ => (boolVP true))] [0, 1, 2, 3, 4, 5, 6, 7, 8, 9, 10, 10, 11, 12, 13, 14, 15, 16, 17, 18, 19, 20, 20, 21, 22, 22, 22, 22, 23, 24, 25, 26, 27, 28, 28, 29, 30, 31, 32, 33, 34, 35, 36, 37, 38, 39, 40, 41, 42, 43, 44] [⟨[4, 11], [], [19], [], some 71⟩, ⟨[5, 12], [], [20], [], some 72⟩, ⟨[19, 20], [], [21], [0, 1], some 73⟩, ⟨[21], [], [22], [0, 1, 2], some 74⟩, ⟨[22, 6, 13], [], [23], [0, 1, 2, 3], some 75⟩, ⟨[22, 5, 12], [], [24], [0, 1, 2, 3], some 76⟩, ⟨[22, 23, 24], [], [25], [0, 1, 2, 3, 4, 5], some 77⟩, ⟨[22, 25], [], [26], [0, 1, 2, 3, 4, 5, 6], some 78⟩, ⟨[26], [], [27], [0, 1, 2, 3, 4, 5, 6, 7], some 79⟩, ⟨[27, 1], [], [28], [0, 1, 2, 3, 4, 5, 6, 7, 8], some 80⟩, ⟨[27, 28], [14], [29, 30], [0, 1, 2, 3, 4, 5, 6, 7, 8, 9], some 81⟩, ⟨[27, 2], [], [31], [0, 1, 2, 3, 4, 5, 6, 7, 8], some 82⟩, ⟨[27, 31], [], [32], [0, 1, 2, 3, 4, 5, 6, 7, 8, 11], some 83⟩, ⟨[27, 32], [], [33], [0, 1, 2, 3, 4, 5, 6, 7, 8, 11, 12], some 84⟩, ⟨[27, 33, 16], [], [34], [0, 1, 2, 3, 4, 5, 6, 7, 8, 11, 12, 13], some 85⟩, ⟨[27, 34, 17], [], [35], [0, 1, 2, 3, 4, 5, 6, 7, 8, 11, 12, 13, 14], some 86⟩, ⟨[27, 29, 35], [], [36], [0, 1, 2, 3, 4, 5, 6, 7, 8, 9, 10, 11, 12, 13, 14, 15], some 87⟩, ⟨[27, 36], [], [37], [0, 1, 2, 3, 4, 5, 6, 7, 8, 9, 10, 11, 12, 13, 14, 15, 16], some 88⟩, ⟨[37], [], [38], [0, 1, 2, 3, 4, 5, 6, 7, 8, 9, 10, 11, 12, 13, 14, 15, 16, 17], some 89⟩, ⟨[38, 1], [], [39], [0, 1, 2, 3, 4, 5, 6, 7, 8, 9, 10, 11, 12, 13, 14, 15, 16, 17, 18], some 90⟩, ⟨[38, 39], [30], [40, 41], [0, 1, 2, 3, 4, 5, 6, 7, 8, 9, 10, 11, 12, 13, 14, 15, 16, 17, 18, 19], some 91⟩, ⟨[38, 2], [], [42], [0, 1, 2, 3, 4, 5, 6, 7, 8, 9, 10, 11, 12, 13, 14, 15, 16, 17, 18], some 92⟩, ⟨[38, 42], [16, 17, 18], [43, 44, 45, 46], [0, 1, 2, 3, 4, 5, 6, 7, 8, 9, 10, 11, 12, 13, 14, 15, 16, 17, 18, 19, 20, 21], some 93⟩, ⟨[38, 40, 43], [], [47], [0, 1, 2, 3, 4, 5, 6, 7, 8, 9, 10, 11, 12, 13, 14, 15, 16, 17, 18, 19, 20, 21, 22], some 94⟩, ⟨[38, 47], [], [48], [0, 1, 2, 3, 4, 5, 6, 7, 8, 9, 10, 11, 12, 13, 14, 15, 16, 17, 18, 19, 20, 21, 22, 23], some 95⟩, ⟨[48], [], [49], [0, 1, 2, 3, 4, 5, 6, 7, 8, 9, 10, 11, 12, 13, 14, 15, 16, 17, 18, 19, 20, 21, 22, 23, 24], some 96⟩, ⟨[49, 1], [], [50], [0, 1, 2, 3, 4, 5, 6, 7, 8, 9, 10, 11, 12, 13, 14, 15, 16, 17, 18, 19, 20, 21, 22, 23, 24, 25], some 97⟩, ⟨[49, 4, 11], [], [51], [0, 1, 2, 3, 4, 5, 6, 7, 8, 9, 10, 11, 12, 13, 14, 15, 16, 17, 18, 19, 20, 21, 22, 23, 24, 25], some 98⟩, ⟨[49, 50, 51], [41], [52, 53], [0, 1, 2, 3, 4, 5, 6, 7, 8, 9, 10, 11, 12, 13, 14, 15, 16, 17, 18, 19, 20, 21, 22, 23, 24, 25, 26, 27], some 99⟩, ⟨[49, 52], [], [54], [0, 1, 2, 3, 4, 5, 6, 7, 8, 9, 10, 11, 12, 13, 14, 15, 16, 17, 18, 19, 20, 21, 22, 23, 24, 25, 26, 27, 28], some 100⟩, ⟨[49, 54], [], [55], [0, 1, 2, 3, 4, 5, 6, 7, 8, 9, 10, 11, 12, 13, 14, 15, 16, 17, 18, 19, 20, 21, 22, 23, 24, 25, 26, 27, 28, 29], some 101⟩, ⟨[55], [], [56], [0, 1, 2, 3, 4, 5, 6, 7, 8, 9, 10, 11, 12, 13, 14, 15, 16, 17, 18, 19, 20, 21, 22, 23, 24, 25, 26, 27, 28, 29, 30], some 102⟩, ⟨[56], [], [57], [0, 1, 2, 3, 4, 5, 6, 7, 8, 9, 10, 11, 12, 13, 14, 15, 16, 17, 18, 19, 20, 21, 22, 23, 24, 25, 26, 27, 28, 29, 30, 31], some 103⟩, ⟨[56], [], [58], [0, 1, 2, 3, 4, 5, 6, 7, 8, 9, 10, 11, 12, 13, 14, 15, 16, 17, 18, 19, 20, 21, 22, 23, 24, 25, 26, 27, 28, 29, 30, 31], some 104⟩, ⟨[56], [], [59], [0, 1, 2, 3, 4, 5, 6, 7, 8, 9, 10, 11, 12, 13, 14, 15, 16, 17, 18, 19, 20, 21, 22, 23, 24, 25, 26, 27, 28, 29, 30, 31, 32, 33], some 105⟩, ⟨[56], [], [60], [0, 1, 2, 3, 4, 5, 6, 7, 8, 9, 10, 11, 12, 13, 14, 15, 16, 17, 18, 19, 20, 21, 22, 23, 24, 25, 26, 27, 28, 29, 30, 31], some 106⟩, ⟨[56], [], [61], [0, 1, 2, 3, 4, 5, 6, 7, 8, 9, 10, 11, 12, 13, 14, 15, 16, 17, 18, 19, 20, 21, 22, 23, 24, 25, 26, 27, 28, 29, 30, 31, 35], some 107⟩, ⟨[56], [], [62], [0, 1, 2, 3, 4, 5, 6, 7, 8, 9, 10, 11, 12, 13, 14, 15, 16, 17, 18, 19, 20, 21, 22, 23, 24, 25, 26, 27, 28, 29, 30, 31, 35, 36], some 108⟩, ⟨[56], [], [63], [0, 1, 2, 3, 4, 5, 6, 7, 8, 9, 10, 11, 12, 13, 14, 15, 16, 17, 18, 19, 20, 21, 22, 23, 24, 25, 26, 27, 28, 29, 30, 31, 35, 36, 37], some 109⟩, ⟨[56], [], [64], [0, 1, 2, 3, 4, 5, 6, 7, 8, 9, 10, 11, 12, 13, 14, 15, 16, 17, 18, 19, 20, 21, 22, 23, 24, 25, 26, 27, 28, 29, 30, 31], some 110⟩, ⟨[56], [], [65], [0, 1, 2, 3, 4, 5, 6, 7, 8, 9, 10, 11, 12, 13, 14, 15, 16, 17, 18, 19, 20, 21, 22, 23, 24, 25, 26, 27, 28, 29, 30, 31, 35, 36, 37, 38, 39], some 111⟩, ⟨[56], [], [66], [0, 1, 2, 3, 4, 5, 6, 7, 8, 9, 10, 11, 12, 13, 14, 15, 16, 17, 18, 19, 20, 21, 22, 23, 24, 25, 26, 27, 28, 29, 30, 31, 35, 36, 37, 38, 39, 40], some 112⟩, ⟨[56], [], [67], [0, 1, 2, 3, 4, 5, 6, 7, 8, 9, 10, 11, 12, 13, 14, 15, 16, 17, 18, 19, 20, 21, 22, 23, 24, 25, 26, 27, 28, 29, 30, 31, 35, 36, 37, 38, 39, 40, 41], some 113⟩, ⟨[56], [], [68], [0, 1, 2, 3, 4, 5, 6, 7, 8, 9, 10, 11, 12, 13, 14, 15, 16, 17, 18, 19, 20, 21, 22, 23, 24, 25, 26, 27, 28, 29, 30, 31, 32, 33, 34, 35, 36, 37, 38, 39, 40, 41, 42], some 114⟩, ⟨[56], [], [69], [0, 1, 2, 3, 4, 5, 6, 7, 8, 9, 10, 11, 12, 13, 14, 15, 16, 17, 18, 19, 20, 21, 22, 23, 24, 25, 26, 27, 28, 29, 30, 31, 32, 33, 34, 35, 36, 37, 38, 39, 40, 41, 42, 43], some 115⟩] [0, 1, 2, 3, 7, 8, 9, 69, 10, 15, 44, 45, 46, 53] mixed hn hG h (by kernel_rfl) ?_ ?_
                        · exact ⟨⟨rfl, fun β => (GOk.plain (op_load_lb [] [bytesCk 32 x91] [] 1 Tryd.isAgg24 Tryd.sizeOf24 (opt 0 rfl) rfl rfl rfl) rfl)⟩, ⟨rfl, fun β => (GOk.plain (op_load_lb [] [bytesCk 32 x92] [] 1 Tryd.isAgg24 Tryd.sizeOf24 (opt 0 rfl) rfl rfl rfl) rfl)⟩, ⟨rfl, fun β => (GOk.plain (op_bin (bin_aneq Tryd.underlying24 Tryd.underlying5 Tryd.type5 Tryd.sizeOf5 Tryd.isAgg5 Tryd.eqGuardType24) (opt 0 rfl) (opt 1 rfl)) rfl)⟩, ⟨rfl, fun β => (GOk.plain (op_move (opt 0 rfl)) rfl)⟩, ⟨rfl, fun β => (GOk.on_eq hb110 rfl rfl rfl (op_load_lb [] [bytesCk 32 x93] [] 1 Tryd.isAgg24 Tryd.sizeOf24 (opt 0 rfl) rfl rfl rfl))⟩, ⟨rfl, fun β => (GOk.on_eq hb110 rfl rfl rfl (op_load_lb [] [bytesCk 32 x92] [] 1 Tryd.isAgg24 Tryd.sizeOf24 (opt 0 rfl) rfl rfl rfl))⟩, ⟨rfl, fun β => (GOk.on_eq hb110 rfl rfl rfl (op_bin (bin_aneq Tryd.underlying24 Tryd.underlying5 Tryd.type5 Tryd.sizeOf5 Tryd.isAgg5 Tryd.eqGuardType24) (opt 0 rfl) (opt 1 rfl)))⟩, ⟨rfl, fun β => (GOk.plain (op_pick_f hb110 (opt 0 rfl) (opt 1 rfl)) rfl)⟩, ⟨rfl, fun β => (GOk.plain (op_move (opt 0 rfl)) rfl)⟩, ⟨rfl, fun β => (GOk.on_eq hb111 rfl rfl rfl (op_move (opt 0 rfl)))⟩, ⟨rfl, fun β => (GOk.on_eq hb111 rfl rfl rfl (op_call Tryd.call15 (digest_Log_Count_oke hr103) ⟨(opt 0 rfl), trivial⟩))⟩, ⟨rfl, fun β => (GOk.on_eq hb111 rfl rfl rfl (op_move (opt 0 rfl)))⟩, ⟨rfl, fun β => (GOk.on_eq hb111 rfl rfl rfl (op_nilCheck (opt 0 rfl) (ptr_lp _ _)))⟩, ⟨rfl, fun β => (GOk.on_eq hb111 rfl rfl rfl (op_fieldAddr_lbm (p := p10) (n := 1) 0 0 Tryd.underlying41 rfl Tryd.sizeOf22 (by decide) (opt 0 rfl) rfl))⟩, ⟨rfl, fun β => (GOk.on_eq hb111 rfl rfl rfl (op_load_lb1 [] [one (eqVP h102)] 1 Tryd.isAgg22 (opt 0 rfl) rfl rfl))⟩, ⟨rfl, fun β => (GOk.on_eq hb111 rfl rfl rfl (op_len_sl Tryd.underlying22 (opacc 0 1 rfl rfl)))⟩, ⟨rfl, fun β => (GOk.on_eq hb111 rfl rfl rfl (op_bin bin_neq (opt 0 rfl) (opt 1 rfl)))⟩, ⟨rfl, fun β => (GOk.plain (op_pick_f hb111 (opt 0 rfl) (opt 1 rfl)) rfl)⟩, ⟨rfl, fun β => (GOk.plain (op_move (opt 0 rfl)) rfl)⟩, ⟨rfl, fun β => (GOk.on_eq hb112 rfl rfl rfl (op_move (opt 0 rfl)))⟩, ⟨rfl, fun β => (GOk.on_eq hb112 rfl rfl rfl (op_call Tryd.call16 (digest_Log_Clash_oke hr104) ⟨(opt 0 rfl), trivial⟩))⟩, ⟨rfl, fun β => (GOk.on_eq hb112 rfl rfl rfl (op_move (opt 0 rfl)))⟩, ⟨rfl, fun β => (GOk.on_eq hb112 rfl rfl rfl (op_call Tryd.call21 (ref04_Log_Clash_oku hr105) ⟨(lp_eqo 0 rfl), trivial⟩))⟩, ⟨rfl, fun β => (GOk.on_eq hb112 rfl rfl rfl (op_bin (bin_bneq Tryd.underlying4) (opt 0 rfl) (opt 1 rfl)))⟩, ⟨rfl, fun β => (GOk.plain (op_pick_f hb112 (opt 0 rfl) (opt 1 rfl)) rfl)⟩, ⟨rfl, fun β => (GOk.plain (op_move (opt 0 rfl)) rfl)⟩, ⟨rfl, fun β => (GOk.on_eq hb113 rfl rfl rfl (op_move (opt 0 rfl)))⟩, ⟨rfl, fun β => (GOk.on_eq hb113 rfl rfl rfl (op_load_lb [] [bytesCk 32 x91] [] 1 Tryd.isAgg24 Tryd.sizeOf24 (opt 0 rfl) rfl rfl rfl))⟩, ⟨rfl, fun β => (GOk.on_eq hb113 rfl rfl rfl (op_call Tryd.call22 (digest_Log_Has_oke hr106) ⟨(opt 0 rfl), (opt 1 rfl), trivial⟩))⟩, ⟨rfl, fun β => (GOk.on_eq hb113 rfl rfl rfl (op_un (un_not _) (opt 0 rfl)))⟩, ⟨rfl, fun β => (GOk.plain (op_pick_f hb113 (opt 0 rfl) (opt 1 rfl)) rfl)⟩, ⟨rfl, fun β => (GOk.plain (op_move (opt 0 rfl)) rfl)⟩, ⟨rfl, fun β => (GOk.off_v (want := false) hb114 rfl rfl rfl rfl)⟩, ⟨rfl, fun β => (GOk.off_v (want := false) hb114 rfl rfl rfl rfl)⟩, ⟨rfl, fun β => (GOk.off_v (want := false) hb114 rfl rfl rfl rfl)⟩, ⟨rfl, fun β => (GOk.off_v (want := false) hb114 rfl rfl rfl rfl)⟩, ⟨rfl, fun β => (GOk.off_v (want := false) hb114 rfl rfl rfl rfl)⟩, ⟨rfl, fun β => (GOk.off_v (want := false) hb114 rfl rfl rfl rfl)⟩, ⟨rfl, fun β => (GOk.off_v (want := false) hb114 rfl rfl rfl rfl)⟩, ⟨rfl, fun β => (GOk.off_v (want := false) hb114 rfl rfl rfl rfl)⟩, ⟨rfl, fun β => (GOk.off_v (want := false) hb114 rfl rfl rfl rfl)⟩, ⟨rfl, fun β => (GOk.off_v (want := false) hb114 rfl rfl rfl rfl)⟩, ⟨rfl, fun β => (GOk.off_v (want := false) hb114 rfl rfl rfl rfl)⟩, ⟨rfl, fun β => (GOk.off_v (want := false) hb114 rfl rfl rfl rfl)⟩, ⟨rfl, fun β => (GOk.plain (op_pick_t hb114 (opt 0 rfl) (opc (bc _))) rfl)⟩, trivial⟩
                        clear h
                        intro β a w h
                        change SatL c [.slot 3 (lpVP p1 0), .slot 5 (eqVP p9), .slot 6 (lpVP p10 0), .slot 7 (eqVP (.pointer none)), .slot 21 (slVP S_law04_Ask.ck a_0), .slot 22 (intVP .i64 (a_0.length : Int)), .slot 23 (intVP .i64 x42), .slot 115 (boolVP true), .res (lb p1 24 [bytesCk 32 a_1]), .res (Log_e (.pointer none) x96), .res (lb p10 41 [one (eqVP h101), one (eqVP h102)]), .res (acc h101 9 1 strC s97.f_Inputs), .res (mapR h102 arrK (fun l => l.length = 32) (fun u y => acc u 9 1 strC y) s97.f_Digests), .res (Log_e p9 x94)] a w at h
                        clear β
                        replace h := h.unsep 11 12 rfl rfl (by decide)
                        replace h := h.unsep 10 11 rfl rfl (by decide)
                        replace h := h.conv 10 rfl (R' := RLog_e p10 (some s97)) (RLog_packo (v0 := h101) (v1 := h102) (o := (some s97)))
                        replace h := h.slotc 2 rfl (fun _ _ h => lp_eqv h)
                        replace h := h.sub [0, 1, 2, 3, 4, 5, 6, 7, 8, 9, 13, 10] (by rfl)
                        change SatL c [.slot 3 (lpVP p1 0), .slot 5 (eqVP p9), .slot 6 (eqVP p10), .slot 7 (eqVP (.pointer none)), .slot 21 (slVP S_law04_Ask.ck a_0), .slot 22 (intVP .i64 (a_0.length : Int)), .slot 23 (intVP .i64 x42), .slot 115 (boolVP true), .res (lb p1 24 [bytesCk 32 a_1]), .res (Log_e (.pointer none) x96), .res (Log_e p9 x94), .res (RLog_e p10 (some s97))] a w at h
                        exact ⟨true, hF, h.sub [0, 1, 2, 3, 4, 5, 6, 7, 8, 10, 9, 11] (by rfl)⟩
                      · replace hF := ff_of hb114 hF
                        obtain ⟨r107, hr107, hF⟩ := bind_some hF
                        refine region_do (n := 134) [.slot 71 100000 100000 (fun _ _ => (aggVP [bytesCk 32 x91])),
      .slot 72 100000 100000 (fun _ _ => (aggVP [bytesCk 32 x92])),
      .slot 73 100000 100000 (fun _ _ => (boolVP (!decide (x91 = x92)))),
      .slot 74 100000 100000 (fun _ _ => (boolVP (!decide (x91 = x92)))),
      .slot 75 100000 100000 (fun _ _ => (aggVP [bytesCk 32 x93])),
      .slot 76 100000 100000 (fun _ _ => (aggVP [bytesCk 32 x92])),
      .slot 77 100000 100000 (fun _ _ => (boolVP (!decide (x93 = x92)))),
      .slot 78 100000 100000 (fun _ _ => (boolVP (!decide (x93 = x92)))),
      .slot 79 100000 100000 (fun _ _ => (boolVP (!decide (x93 = x92)))),
      .slot 80 100000 100000 (fun _ _ => (eqVP p9)),
      .slot 81 100000 100000 (fun _ _ => (intVP .i64 r103)),
      .res 100000 100000 (fun _ _ => (Log_e p9 x94)),
      .slot 82 100000 100000 (fun _ _ => (lpVP p10 0)),
      .slot 83 100000 100000 (fun _ _ => (lpVP p10 0)),
      .slot 84 100000 100000 (fun _ _ => (lpVP p10 0)),
      .slot 85 100000 100000 (fun _ _ => (eqVP h101)),
      .slot 86 100000 100000 (fun _ _ => (intVP .i64 (s97.f_Inputs.length : Int))),
      .slot 87 100000 100000 (fun _ _ => (boolVP (!decide (r103 = (s97.f_Inputs.length : Int))))),
      .slot 88 100000 100000 (fun _ _ => (boolVP (!decide (r103 = (s97.f_Inputs.length : Int))))),
      .slot 89 100000 100000 (fun _ _ => (boolVP (!decide (r103 = (s97.f_Inputs.length : Int))))),
      .slot 90 100000 100000 (fun _ _ => (eqVP p9)),
      .slot 91 100000 100000 (fun _ _ => (boolVP r104)),
      .res 100000 100000 (fun _ _ => (Log_e p9 x94)),
      .slot 92 100000 100000 (fun _ _ => (lpVP p10 0)),
      .slot 93 100000 100000 (fun _ _ => (boolVP r105)),
      .res 100000 100000 (fun _ _ => (lb p10 41 [one (eqVP h101), one (eqVP h102)])),
      .res 100000 100000 (fun _ _ => (acc h101 9 1 strC s97.f_Inputs)),
      .res 100000 100000 (fun _ _ => (mapR h102 arrK (fun l => l.length = 32) (fun u y => acc u 9 1 strC y) s97.f_Digests)),
      .slot 94 100000 100000 (fun _ _ => (boolVP (!(r104 == r105)))),
      .slot 95 100000 100000 (fun _ _ => (boolVP (!(r104 == r105)))),
      .slot 96 100000 100000 (fun _ _ => (boolVP (!(r104 == r105)))),
      .slot 97 100000 100000 (fun _ _ => (eqVP p9)),
      .slot 98 100000 100000 (fun _ _ => (aggVP [bytesCk 32 x91])),
      .slot 99 100000 100000 (fun _ _ => (boolVP r106)),
      .res 100000 100000 (fun _ _ => (Log_e p9 x94)),
      .slot 100 100000 100000 (fun _ _ => (boolVP (!r106))),
      .slot 101 100000 100000 (fun _ _ => (boolVP (!r106))),
      .slot 102 100000 100000 (fun _ _ => (boolVP (!r106))),
      .slot 103 100000 100000 (fun _ _ => (eqVP p9)),
      .slot 104 100000 100000 (fun _ _ => (aggVP [bytesCk 32 a_1])),
      .slot 105 100000 100000 (fun _ _ => (boolVP r107)),
      .res 100000 100000 (fun _ _ => (Log_e p9 x94)),
      .slot 106 100000 100000 (fun _ _ => (lpVP p10 0)),
      .slot 107 100000 100000 (fun _ _ => (lpVP p10 0)),
      .slot 108 100000 100000 (fun _ _ => (lpVP p10 1)),
      .slot 109 100000 100000 (fun _ _ => (eqVP h102)),
      .slot 110 100000 100000 (fun _ _ => (aggVP [bytesCk 32 a_1])),
      .slot 111 100000 100000 (fun _ _ => (slVP strC ((lkp a_1 s97.f_Digests).getD []))),
      .slot 112 100000 100000 (fun _ _ => (intVP .i64 (((lkp a_1 s97.f_Digests).getD []).length : Int))),
      .slot 113 100000 100000 (fun _ _ => (boolVP (decide ((0 : Int) < (((lkp a_1 s97.f_Digests).getD []).length : Int))))),
      .slot 114 100000 100000 (fun _ _ => (boolVP (!(r107 == (decide ((0 : Int) < (((lkp a_1 s97.f_Digests).getD []).length : Int))))))),
      .slot 115 100000 100000 (fun _ _ => (boolVP (!(r107 == (decide ((0 : Int) < (((lkp a_1 s97.f_Digests).getD []).length : Int)))))))] [0, 1, 2, 3, 4, 5, 6, 7, 8, 9, 10, 10, 11, 12, 13, 14, 15, 16, 17, 18, 19, 20, 20, 21, 22, 22, 22, 22, 23, 24, 25, 26, 27, 28, 28, 29, 30, 31, 32, 33, 34, 34, 35, 36, 37, 38, 39, 40, 41, 42, 43, 44] [⟨[4, 11], [], [19], [], some 71⟩, ⟨[5, 12], [], [20], [], some 72⟩, ⟨[19, 20], [], [21], [0, 1], some 73⟩, ⟨[21], [], [22], [0, 1, 2], some 74⟩, ⟨[22, 6, 13], [], [23], [0, 1, 2, 3], some 75⟩, ⟨[22, 5, 12], [], [24], [0, 1, 2, 3], some 76⟩, ⟨[22, 23, 24], [], [25], [0, 1, 2, 3, 4, 5], some 77⟩, ⟨[22, 25], [], [26], [0, 1, 2, 3, 4, 5, 6], some 78⟩, ⟨[26], [], [27], [0, 1, 2, 3, 4, 5, 6, 7], some 79⟩, ⟨[27, 1], [], [28], [0, 1, 2, 3, 4, 5, 6, 7, 8], some 80⟩, ⟨[27, 28], [14], [29, 30], [0, 1, 2, 3, 4, 5, 6, 7, 8, 9], some 81⟩, ⟨[27, 2], [], [31], [0, 1, 2, 3, 4, 5, 6, 7, 8], some 82⟩, ⟨[27, 31], [], [32], [0, 1, 2, 3, 4, 5, 6, 7, 8, 11], some 83⟩, ⟨[27, 32], [], [33], [0, 1, 2, 3, 4, 5, 6, 7, 8, 11, 12], some 84⟩, ⟨[27, 33, 16], [], [34], [0, 1, 2, 3, 4, 5, 6, 7, 8, 11, 12, 13], some 85⟩, ⟨[27, 34, 17], [], [35], [0, 1, 2, 3, 4, 5, 6, 7, 8, 11, 12, 13, 14], some 86⟩, ⟨[27, 29, 35], [], [36], [0, 1, 2, 3, 4, 5, 6, 7, 8, 9, 10, 11, 12, 13, 14, 15], some 87⟩, ⟨[27, 36], [], [37], [0, 1, 2, 3, 4, 5, 6, 7, 8, 9, 10, 11, 12, 13, 14, 15, 16], some 88⟩, ⟨[37], [], [38], [0, 1, 2, 3, 4, 5, 6, 7, 8, 9, 10, 11, 12, 13, 14, 15, 16, 17], some 89⟩, ⟨[38, 1], [], [39], [0, 1, 2, 3, 4, 5, 6, 7, 8, 9, 10, 11, 12, 13, 14, 15, 16, 17, 18], some 90⟩, ⟨[38, 39], [30], [40, 41], [0, 1, 2, 3, 4, 5, 6, 7, 8, 9, 10, 11, 12, 13, 14, 15, 16, 17, 18, 19], some 91⟩, ⟨[38, 2], [], [42], [0, 1, 2, 3, 4, 5, 6, 7, 8, 9, 10, 11, 12, 13, 14, 15, 16, 17, 18], some 92⟩, ⟨[38, 42], [16, 17, 18], [43, 44, 45, 46], [0, 1, 2, 3, 4, 5, 6, 7, 8, 9, 10, 11, 12, 13, 14, 15, 16, 17, 18, 19, 20, 21], some 93⟩, ⟨[38, 40, 43], [], [47], [0, 1, 2, 3, 4, 5, 6, 7, 8, 9, 10, 11, 12, 13, 14, 15, 16, 17, 18, 19, 20, 21, 22], some 94⟩, ⟨[38, 47], [], [48], [0, 1, 2, 3, 4, 5, 6, 7, 8, 9, 10, 11, 12, 13, 14, 15, 16, 17, 18, 19, 20, 21, 22, 23], some 95⟩, ⟨[48], [], [49], [0, 1, 2, 3, 4, 5, 6, 7, 8, 9, 10, 11, 12, 13, 14, 15, 16, 17, 18, 19, 20, 21, 22, 23, 24], some 96⟩, ⟨[49, 1], [], [50], [0, 1, 2, 3, 4, 5, 6, 7, 8, 9, 10, 11, 12, 13, 14, 15, 16, 17, 18, 19, 20, 21, 22, 23, 24, 25], some 97⟩, ⟨[49, 4, 11], [], [51], [0, 1, 2, 3, 4, 5, 6, 7, 8, 9, 10, 11, 12, 13, 14, 15, 16, 17, 18, 19, 20, 21, 22, 23, 24, 25], some 98⟩, ⟨[49, 50, 51], [41], [52, 53], [0, 1, 2, 3, 4, 5, 6, 7, 8, 9, 10, 11, 12, 13, 14, 15, 16, 17, 18, 19, 20, 21, 22, 23, 24, 25, 26, 27], some 99⟩, ⟨[49, 52], [], [54], [0, 1, 2, 3, 4, 5, 6, 7, 8, 9, 10, 11, 12, 13, 14, 15, 16, 17, 18, 19, 20, 21, 22, 23, 24, 25, 26, 27, 28], some 100⟩, ⟨[49, 54], [], [55], [0, 1, 2, 3, 4, 5, 6, 7, 8, 9, 10, 11, 12, 13, 14, 15, 16, 17, 18, 19, 20, 21, 22, 23, 24, 25, 26, 27, 28, 29], some 101⟩, ⟨[55], [], [56], [0, 1, 2, 3, 4, 5, 6, 7, 8, 9, 10, 11, 12, 13, 14, 15, 16, 17, 18, 19, 20, 21, 22, 23, 24, 25, 26, 27, 28, 29, 30], some 102⟩, ⟨[56, 1], [], [57], [0, 1, 2, 3, 4, 5, 6, 7, 8, 9, 10, 11, 12, 13, 14, 15, 16, 17, 18, 19, 20, 21, 22, 23, 24, 25, 26, 27, 28, 29, 30, 31], some 103⟩, ⟨[56, 0, 10], [], [58], [0, 1, 2, 3, 4, 5, 6, 7, 8, 9, 10, 11, 12, 13, 14, 15, 16, 17, 18, 19, 20, 21, 22, 23, 24, 25, 26, 27, 28, 29, 30, 31], some 104⟩, ⟨[56, 57, 58], [53], [59, 60], [0, 1, 2, 3, 4, 5, 6, 7, 8, 9, 10, 11, 12, 13, 14, 15, 16, 17, 18, 19, 20, 21, 22, 23, 24, 25, 26, 27, 28, 29, 30, 31, 32, 33], some 105⟩, ⟨[56, 2], [], [61], [0, 1, 2, 3, 4, 5, 6, 7, 8, 9, 10, 11, 12, 13, 14, 15, 16, 17, 18, 19, 20, 21, 22, 23, 24, 25, 26, 27, 28, 29, 30, 31], some 106⟩, ⟨[56, 61], [], [62], [0, 1, 2, 3, 4, 5, 6, 7, 8, 9, 10, 11, 12, 13, 14, 15, 16, 17, 18, 19, 20, 21, 22, 23, 24, 25, 26, 27, 28, 29, 30, 31, 35], some 107⟩, ⟨[56, 62], [], [63], [0, 1, 2, 3, 4, 5, 6, 7, 8, 9, 10, 11, 12, 13, 14, 15, 16, 17, 18, 19, 20, 21, 22, 23, 24, 25, 26, 27, 28, 29, 30, 31, 35, 36], some 108⟩, ⟨[56, 63, 44], [], [64], [0, 1, 2, 3, 4, 5, 6, 7, 8, 9, 10, 11, 12, 13, 14, 15, 16, 17, 18, 19, 20, 21, 22, 23, 24, 25, 26, 27, 28, 29, 30, 31, 35, 36, 37], some 109⟩, ⟨[56, 0, 10], [], [65], [0, 1, 2, 3, 4, 5, 6, 7, 8, 9, 10, 11, 12, 13, 14, 15, 16, 17, 18, 19, 20, 21, 22, 23, 24, 25, 26, 27, 28, 29, 30, 31], some 110⟩, ⟨[56, 64, 65, 46], [], [66], [0, 1, 2, 3, 4, 5, 6, 7, 8, 9, 10, 11, 12, 13, 14, 15, 16, 17, 18, 19, 20, 21, 22, 23, 24, 25, 26, 27, 28, 29, 30, 31, 35, 36, 37, 38, 39], some 111⟩, ⟨[56, 66], [], [67], [0, 1, 2, 3, 4, 5, 6, 7, 8, 9, 10, 11, 12, 13, 14, 15, 16, 17, 18, 19, 20, 21, 22, 23, 24, 25, 26, 27, 28, 29, 30, 31, 35, 36, 37, 38, 39, 40], some 112⟩, ⟨[56, 67], [], [68], [0, 1, 2, 3, 4, 5, 6, 7, 8, 9, 10, 11, 12, 13, 14, 15, 16, 17, 18, 19, 20, 21, 22, 23, 24, 25, 26, 27, 28, 29, 30, 31, 35, 36, 37, 38, 39, 40, 41], some 113⟩, ⟨[56, 59, 68], [], [69], [0, 1, 2, 3, 4, 5, 6, 7, 8, 9, 10, 11, 12, 13, 14, 15, 16, 17, 18, 19, 20, 21, 22, 23, 24, 25, 26, 27, 28, 29, 30, 31, 32, 33, 34, 35, 36, 37, 38, 39, 40, 41, 42], some 114⟩, ⟨[56, 69], [], [70], [0, 1, 2, 3, 4, 5, 6, 7, 8, 9, 10, 11, 12, 13, 14, 15, 16, 17, 18, 19, 20, 21, 22, 23, 24, 25, 26, 27, 28, 29, 30, 31, 32, 33, 34, 35, 36, 37, 38, 39, 40, 41, 42, 43], some 115⟩] [0, 1, 2, 3, 7, 8, 9, 70, 10, 15, 44, 45, 46, 60] mixed hn hG h (by kernel_rfl) ?_ ?_
                        · exact ⟨⟨rfl, fun β => (GOk.plain (op_load_lb [] [bytesCk 32 x91] [] 1 Tryd.isAgg24 Tryd.sizeOf24 (opt 0 rfl) rfl rfl rfl) rfl)⟩, ⟨rfl, fun β => (GOk.plain (op_load_lb [] [bytesCk 32 x92] [] 1 Tryd.isAgg24 Tryd.sizeOf24 (opt 0 rfl) rfl rfl rfl) rfl)⟩, ⟨rfl, fun β => (GOk.plain (op_bin (bin_aneq Tryd.underlying24 Tryd.underlying5 Tryd.type5 Tryd.sizeOf5 Tryd.isAgg5 Tryd.eqGuardType24) (opt 0 rfl) (opt 1 rfl)) rfl)⟩, ⟨rfl, fun β => (GOk.plain (op_move (opt 0 rfl)) rfl)⟩, ⟨rfl, fun β => (GOk.on_eq hb110 rfl rfl rfl (op_load_lb [] [bytesCk 32 x93] [] 1 Tryd.isAgg24 Tryd.sizeOf24 (opt 0 rfl) rfl rfl rfl))⟩, ⟨rfl, fun β => (GOk.on_eq hb110 rfl rfl rfl (op_load_lb [] [bytesCk 32 x92] [] 1 Tryd.isAgg24 Tryd.sizeOf24 (opt 0 rfl) rfl rfl rfl))⟩, ⟨rfl, fun β => (GOk.on_eq hb110 rfl rfl rfl (op_bin (bin_aneq Tryd.underlying24 Tryd.underlying5 Tryd.type5 Tryd.sizeOf5 Tryd.isAgg5 Tryd.eqGuardType24) (opt 0 rfl) (opt 1 rfl)))⟩, ⟨rfl, fun β => (GOk.plain (op_pick_f hb110 (opt 0 rfl) (opt 1 rfl)) rfl)⟩, ⟨rfl, fun β => (GOk.plain (op_move (opt 0 rfl)) rfl)⟩, ⟨rfl, fun β => (GOk.on_eq hb111 rfl rfl rfl (op_move (opt 0 rfl)))⟩, ⟨rfl, fun β => (GOk.on_eq hb111 rfl rfl rfl (op_call Tryd.call15 (digest_Log_Count_oke hr103) ⟨(opt 0 rfl), trivial⟩))⟩, ⟨rfl, fun β => (GOk.on_eq hb111 rfl rfl rfl (op_move (opt 0 rfl)))⟩, ⟨rfl, fun β => (GOk.on_eq hb111 rfl rfl rfl (op_nilCheck (opt 0 rfl) (ptr_lp _ _)))⟩, ⟨rfl, fun β => (GOk.on_eq hb111 rfl rfl rfl (op_fieldAddr_lbm (p := p10) (n := 1) 0 0 Tryd.underlying41 rfl Tryd.sizeOf22 (by decide) (opt 0 rfl) rfl))⟩, ⟨rfl, fun β => (GOk.on_eq hb111 rfl rfl rfl (op_load_lb1 [] [one (eqVP h102)] 1 Tryd.isAgg22 (opt 0 rfl) rfl rfl))⟩, ⟨rfl, fun β => (GOk.on_eq hb111 rfl rfl rfl (op_len_sl Tryd.underlying22 (opacc 0 1 rfl rfl)))⟩, ⟨rfl, fun β => (GOk.on_eq hb111 rfl rfl rfl (op_bin bin_neq (opt 0 rfl) (opt 1 rfl)))⟩, ⟨rfl, fun β => (GOk.plain (op_pick_f hb111 (opt 0 rfl) (opt 1 rfl)) rfl)⟩, ⟨rfl, fun β => (GOk.plain (op_move (opt 0 rfl)) rfl)⟩, ⟨rfl, fun β => (GOk.on_eq hb112 rfl rfl rfl (op_move (opt 0 rfl)))⟩, ⟨rfl, fun β => (GOk.on_eq hb112 rfl rfl rfl (op_call Tryd.call16 (digest_Log_Clash_oke hr104) ⟨(opt 0 rfl), trivial⟩))⟩, ⟨rfl, fun β => (GOk.on_eq hb112 rfl rfl rfl (op_move (opt 0 rfl)))⟩, ⟨rfl, fun β => (GOk.on_eq hb112 rfl rfl rfl (op_call Tryd.call21 (ref04_Log_Clash_oku hr105) ⟨(lp_eqo 0 rfl), trivial⟩))⟩, ⟨rfl, fun β => (GOk.on_eq hb112 rfl rfl rfl (op_bin (bin_bneq Tryd.underlying4) (opt 0 rfl) (opt 1 rfl)))⟩, ⟨rfl, fun β => (GOk.plain (op_pick_f hb112 (opt 0 rfl) (opt 1 rfl)) rfl)⟩, ⟨rfl, fun β => (GOk.plain (op_move (opt 0 rfl)) rfl)⟩, ⟨rfl, fun β => (GOk.on_eq hb113 rfl rfl rfl (op_move (opt 0 rfl)))⟩, ⟨rfl, fun β => (GOk.on_eq hb113 rfl rfl rfl (op_load_lb [] [bytesCk 32 x91] [] 1 Tryd.isAgg24 Tryd.sizeOf24 (opt 0 rfl) rfl rfl rfl))⟩, ⟨rfl, fun β => (GOk.on_eq hb113 rfl rfl rfl (op_call Tryd.call22 (digest_Log_Has_oke hr106) ⟨(opt 0 rfl), (opt 1 rfl), trivial⟩))⟩, ⟨rfl, fun β => (GOk.on_eq hb113 rfl rfl rfl (op_un (un_not _) (opt 0 rfl)))⟩, ⟨rfl, fun β => (GOk.plain (op_pick_f hb113 (opt 0 rfl) (opt 1 rfl)) rfl)⟩, ⟨rfl, fun β => (GOk.plain (op_move (opt 0 rfl)) rfl)⟩, ⟨rfl, fun β => (GOk.on_eq hb114 rfl rfl rfl (op_move (opt 0 rfl)))⟩, ⟨rfl, fun β => (GOk.on_eq hb114 rfl rfl rfl (op_load_lb [] [bytesCk 32 a_1] [] 1 Tryd.isAgg24 Tryd.sizeOf24 (opt 0 rfl) rfl rfl rfl))⟩, ⟨rfl, fun β => (GOk.on_eq hb114 rfl rfl rfl (op_call Tryd.call22 (digest_Log_Has_oke hr107) ⟨(opt 0 rfl), (opt 1 rfl), trivial⟩))⟩, ⟨rfl, fun β => (GOk.on_eq hb114 rfl rfl rfl (op_move (opt 0 rfl)))⟩, ⟨rfl, fun β => (GOk.on_eq hb114 rfl rfl rfl (op_nilCheck (opt 0 rfl) (ptr_lp _ _)))⟩, ⟨rfl, fun β => (GOk.on_eq hb114 rfl rfl rfl (op_fieldAddr_lbm (p := p10) (n := 1) 0 1 Tryd.underlying41 rfl Tryd.sizeOf39 (by decide) (opt 0 rfl) rfl))⟩, ⟨rfl, fun β => (GOk.on_eq hb114 rfl rfl rfl (op_load_lb1 [one (eqVP h101)] [] 1 Tryd.isAgg39 (opt 0 rfl) rfl rfl))⟩, ⟨rfl, fun β => (GOk.on_eq hb114 rfl rfl rfl (op_load_lb [] [bytesCk 32 a_1] [] 1 Tryd.isAgg24 Tryd.sizeOf24 (opt 0 rfl) rfl rfl rfl))⟩, ⟨rfl, fun β => (GOk.on_eq hb114 rfl rfl rfl (op_lookup (slVP strC) [] 2 Tryd.underlying39 (keyArr Tryd.underlying24 Tryd.underlying5 Tryd.type5 Tryd.sizeOf5 Tryd.isAgg5) Tryd.zeroValue22 (opt 0 rfl) (opt 1 rfl) hk_arr rfl res_id (fun _ _ _ _ _ h => acc_sl h) (fun _ => ⟨by decide, .inl ⟨rfl, rfl⟩⟩)))⟩, ⟨rfl, fun β => (GOk.on_eq hb114 rfl rfl rfl (op_len_sl Tryd.underlying22 (opt 0 rfl)))⟩, ⟨rfl, fun β => (GOk.on_eq hb114 rfl rfl rfl (op_bin bin_gtr (opt 0 rfl) (opc (ic (by decide)))))⟩, ⟨rfl, fun β => (GOk.on_eq hb114 rfl rfl rfl (op_bin (bin_bneq Tryd.underlying4) (opt 0 rfl) (opt 1 rfl)))⟩, ⟨rfl, fun β => (GOk.plain (op_pick_f hb114 (opt 0 rfl) (opt 1 rfl)) rfl)⟩, trivial⟩
                        clear h
                        intro β a w h
                        change SatL c [.slot 3 (lpVP p1 0), .slot 5 (eqVP p9), .slot 6 (lpVP p10 0), .slot 7 (eqVP (.pointer none)), .slot 21 (slVP S_law04_Ask.ck a_0), .slot 22 (intVP .i64 (a_0.length : Int)), .slot 23 (intVP .i64 x42), .slot 115 (boolVP (!(r107 == (decide ((0 : Int) < (((lkp a_1 s97.f_Digests).getD []).length : Int)))))), .res (lb p1 24 [bytesCk 32 a_1]), .res (Log_e (.pointer none) x96), .res (lb p10 41 [one (eqVP h101), one (eqVP h102)]), .res (acc h101 9 1 strC s97.f_Inputs), .res (mapR h102 arrK (fun l => l.length = 32) (fun u y => acc u 9 1 strC y) s97.f_Digests), .res (Log_e p9 x94)] a w at h
                        clear β
                        replace h := h.unsep 11 12 rfl rfl (by decide)
                        replace h := h.unsep 10 11 rfl rfl (by decide)
                        replace h := h.conv 10 rfl (R' := RLog_e p10 (some s97)) (RLog_packo (v0 := h101) (v1 := h102) (o := (some s97)))
                        replace h := h.slotc 2 rfl (fun _ _ h => lp_eqv h)
                        replace h := h.sub [0, 1, 2, 3, 4, 5, 6, 7, 8, 9, 13, 10] (by rfl)
                        change SatL c [.slot 3 (lpVP p1 0), .slot 5 (eqVP p9), .slot 6 (eqVP p10), .slot 7 (eqVP (.pointer none)), .slot 21 (slVP S_law04_Ask.ck a_0), .slot 22 (intVP .i64 (a_0.length : Int)), .slot 23 (intVP .i64 x42), .slot 115 (boolVP (!(r107 == (decide ((0 : Int) < (((lkp a_1 s97.f_Digests).getD []).length : Int)))))), .res (lb p1 24 [bytesCk 32 a_1]), .res (Log_e (.pointer none) x96), .res (Log_e p9 x94), .res (RLog_e p10 (some s97))] a w at h
                        exact ⟨!(r107 == (decide ((0 : Int) < (((lkp a_1 s97.f_Digests).getD []).length : Int)))), hF, h.sub [0, 1, 2, 3, 4, 5, 6, 7, 8, 10, 9, 11] (by rfl)⟩
            · clear h hF
              rintro a w ⟨x108, hF, h⟩
              unfold law04_DigestMakes.j2 at hF
              show Code.wp Tryd.prog _ _ a w
              refine cond_L h 7 rfl (fun hb109 => ?_) (fun hb109 => ?_)
              · replace hF := tt_of hb109 hF
                replace h := h.sub [9, 10, 11] (by rfl)
                change SatL c [.res (Log_e p9 x94), .res (Log_e (.pointer none) x96), .res (RLog_e p10 (some s97))] a w at h
                refine wp_seq ?_
                refine region_do (n := 134) [.slot 4 100000 100000 (fun _ _ => (boolVP false))] [0] [⟨[], [], [3], [], some 4⟩] [3, 0, 1, 2] mixed hn hG h (by kernel_rfl) ?_ ?_
                · exact ⟨⟨rfl, fun β => (GOk.plain (op_assign (opc (bc _))) rfl)⟩, trivial⟩
                clear h
                intro β a w h
                change SatL c [.slot 4 (boolVP false), .res (Log_e p9 x94), .res (Log_e (.pointer none) x96), .res (RLog_e p10 (some s97))] a w at h
                clear β
                show Code.wp Tryd.prog _ _ a w
                refine wp_ret ?_
                obtain rfl := Option.some.inj hF
                exact ⟨ret_ne, rfl, ret1 h Tryd.results4 (r_tmp 0 rfl) [] [] rfl rfl rfl⟩
              · replace hF := ff_of hb109 hF
                replace h := h.sub [0, 1, 2, 3, 4, 5, 6, 8, 9, 10, 11] (by rfl)
                change SatL c [.slot 3 (lpVP p1 0), .slot 5 (eqVP p9), .slot 6 (eqVP p10), .slot 7 (eqVP (.pointer none)), .slot 21 (slVP S_law04_Ask.ck a_0), .slot 22 (intVP .i64 (a_0.length : Int)), .slot 23 (intVP .i64 x42), .res (lb p1 24 [bytesCk 32 a_1]), .res (Log_e p9 x94), .res (Log_e (.pointer none) x96), .res (RLog_e p10 (some s97))] a w at h
                refine wp_skip ?_
                show Code.wp Tryd.prog _ _ a w
                refine region_do (n := 134) [.slot 116 100000 100000 (fun _ _ => (intVP .i64 (IntKind.wrap .i64 (x42 + 1)))),
      .slot 23 100000 100000 (fun _ _ => (intVP .i64 (IntKind.wrap .i64 (x42 + 1))))] [0, 1] [⟨[6], [], [11], [], some 116⟩, ⟨[11], [6], [12], [0], some 23⟩] [0, 1, 2, 3, 4, 5, 12, 7, 8, 9, 10] mixed hn hG h (by kernel_rfl) ?_ ?_
                · exact ⟨⟨rfl, fun β => (GOk.plain (op_bin bin_add (opt 0 rfl) (opc (ic (by decide)))) rfl)⟩, ⟨rfl, fun β => (GOk.drop _ (GOk.plain (op_move (opt 0 rfl)) rfl))⟩, trivial⟩
                clear h
                intro β a w h
                change SatL c [.slot 3 (lpVP p1 0), .slot 5 (eqVP p9), .slot 6 (eqVP p10), .slot 7 (eqVP (.pointer none)), .slot 21 (slVP S_law04_Ask.ck a_0), .slot 22 (intVP .i64 (a_0.length : Int)), .slot 23 (intVP .i64 (IntKind.wrap .i64 (x42 + 1))), .res (lb p1 24 [bytesCk 32 a_1]), .res (Log_e p9 x94), .res (Log_e (.pointer none) x96), .res (RLog_e p10 (some s97))] a w at h
                clear β
                obtain rfl := Option.some.inj hF
                exact ⟨rfl, h.sub [0, 1, 2, 3, 4, 5, 6, 7, 8, 10] (by rfl)⟩
        · replace hF := ff_of hb79 hF
          replace h := h.sub [0, 1, 2, 3, 4, 5, 6, 8, 9, 10] (by rfl)
          change SatL c [.slot 3 (lpVP p1 0), .slot 5 (eqVP p9), .slot 6 (eqVP p10), .slot 7 (eqVP (.pointer none)), .slot 21 (slVP S_law04_Ask.ck a_0), .slot 22 (intVP .i64 (a_0.length : Int)), .slot 23 (intVP .i64 x42), .res (lb p1 24 [bytesCk 32 a_1]), .res (Log_e p9 x43), .res (RLog_e p10 x44)] a w at h
          refine wp_exit ?_
          obtain rfl := Option.some.inj hF
          exact ⟨exit_ne _, rfl, h.sub [0, 3, 7, 8, 9] (by rfl)⟩
      · clear hl123
        intro e a w hq
        cases cr122 with
        | ret r124 =>
          obtain ⟨rfl, hq⟩ := hq
          obtain rfl := Option.some.inj hF
          exact ⟨.inl rfl, hq⟩
        | next s125 =>
          obtain ⟨y126, y127, y128⟩ := s125
          obtain ⟨rfl, h⟩ := hq
          change SatL c [.slot 3 (lpVP p1 0), .slot 7 (eqVP (.pointer none)), .res (lb p1 24 [bytesCk 32 a_1]), .res (Log_e p9 y127), .res (RLog_e p10 y128)] a w at h
          refine inBlock_at ?_
          show Code.wp Tryd.prog _ _ a w
          refine wp_seq ?_
          replace h := h.snoc Log_nil
          replace h := h.sub [0, 1, 2, 3, 4, 5] (by rfl)
          change SatL c [.slot 3 (lpVP p1 0), .slot 7 (eqVP (.pointer none)), .res (lb p1 24 [bytesCk 32 a_1]), .res (Log_e p9 y127), .res (RLog_e p10 y128), .res (Log_e (.pointer none) none)] a w at h
          obtain ⟨r129, hr129, hF⟩ := bind_some hF
          refine wp_cut (fun a w => ∃ (x133 : Bool), law04_DigestMakes.j3 x133 = some r ∧ SatL c [.slot 4 (boolVP x133), .res (Log_e p9 y127), .res (RLog_e p10 y128), .res (Log_e (.pointer none) none)] a w) ?_ ?_
          · rcases Bool.eq_false_or_eq_true r129 with hb134 | hb134
            · replace hF := tt_of hb134 hF
              obtain ⟨r130, hr130, hF⟩ := bind_some hF
              rcases Bool.eq_false_or_eq_true (decide (r130 = (0 : Int))) with hb135 | hb135
              · replace hF := tt_of hb135 hF
                obtain ⟨r131, hr131, hF⟩ := bind_some hF
                rcases Bool.eq_false_or_eq_true (!r131) with hb136 | hb136
                · replace hF := tt_of hb136 hF
                  obtain ⟨r132, hr132, hF⟩ := bind_some hF
                  refine region_do (n := 134) [.slot 117 100000 100000 (fun _ _ => (boolVP r129)),
      .slot 118 100000 100000 (fun _ _ => (boolVP r129)),
      .slot 119 100000 100000 (fun _ _ => (eqVP (.pointer none))),
      .slot 120 100000 100000 (fun _ _ => (intVP .i64 r130)),
      .res 100000 100000 (fun _ _ => (Log_e (.pointer none) none)),
      .slot 121 100000 100000 (fun _ _ => (boolVP (decide (r130 = (0 : Int))))),
      .slot 122 100000 100000 (fun _ _ => (boolVP (decide (r130 = (0 : Int))))),
      .slot 123 100000 100000 (fun _ _ => (boolVP (decide (r130 = (0 : Int))))),
      .slot 124 100000 100000 (fun _ _ => (eqVP (.pointer none))),
      .slot 125 100000 100000 (fun _ _ => (boolVP r131)),
      .res 100000 100000 (fun _ _ => (Log_e (.pointer none) none)),
      .slot 126 100000 100000 (fun _ _ => (boolVP (!r131))),
      .slot 127 100000 100000 (fun _ _ => (boolVP (!r131))),
      .slot 128 100000 100000 (fun _ _ => (boolVP (!r131))),
      .slot 129 100000 100000 (fun _ _ => (eqVP (.pointer none))),
      .slot 130 100000 100000 (fun _ _ => (aggVP [bytesCk 32 a_1])),
      .slot 131 100000 100000 (fun _ _ => (boolVP r132)),
      .res 100000 100000 (fun _ _ => (Log_e (.pointer none) none)),
      .slot 132 100000 100000 (fun _ _ => (boolVP (!r132))),
      .slot 133 100000 100000 (fun _ _ => (boolVP (!r132))),
      .slot 4 100000 100000 (fun _ _ => (boolVP (!r132)))] [0, 1, 2, 3, 3, 4, 5, 6, 7, 8, 8, 9, 10, 11, 12, 13, 14, 14, 15, 16, 17] [⟨[], [], [6], [], some 117⟩, ⟨[6], [], [7], [0], some 118⟩, ⟨[7, 1], [], [8], [0, 1], some 119⟩, ⟨[7, 8], [5], [9, 10], [0, 1, 2], some 120⟩, ⟨[7, 9], [], [11], [0, 1, 2, 3], some 121⟩, ⟨[7, 11], [], [12], [0, 1, 2, 3, 4], some 122⟩, ⟨[12], [], [13], [0, 1, 2, 3, 4, 5], some 123⟩, ⟨[13, 1], [], [14], [0, 1, 2, 3, 4, 5, 6], some 124⟩, ⟨[13, 14], [10], [15, 16], [0, 1, 2, 3, 4, 5, 6, 7], some 125⟩, ⟨[13, 15], [], [17], [0, 1, 2, 3, 4, 5, 6, 7, 8], some 126⟩, ⟨[13, 17], [], [18], [0, 1, 2, 3, 4, 5, 6, 7, 8, 9], some 127⟩, ⟨[18], [], [19], [0, 1, 2, 3, 4, 5, 6, 7, 8, 9, 10], some 128⟩, ⟨[19, 1], [], [20], [0, 1, 2, 3, 4, 5, 6, 7, 8, 9, 10, 11], some 129⟩, ⟨[19, 0, 2], [], [21], [0, 1, 2, 3, 4, 5, 6, 7, 8, 9, 10, 11, 12], some 130⟩, ⟨[19, 20, 21], [16], [22, 23], [0, 1, 2, 3, 4, 5, 6, 7, 8, 9, 10, 11, 12, 13], some 131⟩, ⟨[19, 22], [], [24], [0, 1, 2, 3, 4, 5, 6, 7, 8, 9, 10, 11, 12, 13, 14], some 132⟩, ⟨[19, 24], [], [25], [0, 1, 2, 3, 4, 5, 6, 7, 8, 9, 10, 11, 12, 13, 14, 15], some 133⟩, ⟨[25], [], [26], [0, 1, 2, 3, 4, 5, 6, 7, 8, 9, 10, 11, 12, 13, 14, 15, 16], some 4⟩] [26, 3, 4, 23] mixed hn hG h (by kernel_rfl) ?_ ?_
                  · exact ⟨⟨rfl, fun β => (GOk.plain (op_call Tryd.call11 (law04_awake_ok hr129) trivial) rfl)⟩, ⟨rfl, fun β => (GOk.plain (op_move (opt 0 rfl)) rfl)⟩, ⟨rfl, fun β => (GOk.on_eq hb134 rfl rfl rfl (op_move (opt 0 rfl)))⟩, ⟨rfl, fun β => (GOk.on_eq hb134 rfl rfl rfl (op_call Tryd.call15 (digest_Log_Count_oke hr130) ⟨(opt 0 rfl), trivial⟩))⟩, ⟨rfl, fun β => (GOk.on_eq hb134 rfl rfl rfl (op_bin bin_eql (opt 0 rfl) (opc (ic (by decide)))))⟩, ⟨rfl, fun β => (GOk.plain (op_pick_t hb134 (opt 0 rfl) (opt 1 rfl)) rfl)⟩, ⟨rfl, fun β => (GOk.plain (op_move (opt 0 rfl)) rfl)⟩, ⟨rfl, fun β => (GOk.on_eq hb135 rfl rfl rfl (op_move (opt 0 rfl)))⟩, ⟨rfl, fun β => (GOk.on_eq hb135 rfl rfl rfl (op_call Tryd.call16 (digest_Log_Clash_oke hr131) ⟨(opt 0 rfl), trivial⟩))⟩, ⟨rfl, fun β => (GOk.on_eq hb135 rfl rfl rfl (op_un (un_not _) (opt 0 rfl)))⟩, ⟨rfl, fun β => (GOk.plain (op_pick_t hb135 (opt 0 rfl) (opt 1 rfl)) rfl)⟩, ⟨rfl, fun β => (GOk.plain (op_move (opt 0 rfl)) rfl)⟩, ⟨rfl, fun β => (GOk.on_eq hb136 rfl rfl rfl (op_move (opt 0 rfl)))⟩, ⟨rfl, fun β => (GOk.on_eq hb136 rfl rfl rfl (op_load_lb [] [bytesCk 32 a_1] [] 1 Tryd.isAgg24 Tryd.sizeOf24 (opt 0 rfl) rfl rfl rfl))⟩, ⟨rfl, fun β => (GOk.on_eq hb136 rfl rfl rfl (op_call Tryd.call22 (digest_Log_Has_oke hr132) ⟨(opt 0 rfl), (opt 1 rfl), trivial⟩))⟩, ⟨rfl, fun β => (GOk.on_eq hb136 rfl rfl rfl (op_un (un_not _) (opt 0 rfl)))⟩, ⟨rfl, fun β => (GOk.plain (op_pick_t hb136 (opt 0 rfl) (opt 1 rfl)) rfl)⟩, ⟨rfl, fun β => (GOk.plain (op_assign (opt 0 rfl)) rfl)⟩, trivial⟩
                  clear h
                  intro β a w h
                  change SatL c [.slot 4 (boolVP (!r132)), .res (Log_e p9 y127), .res (RLog_e p10 y128), .res (Log_e (.pointer none) none)] a w at h
                  clear β
                  exact ⟨!r132, hF, h.sub [0, 1, 2, 3] (by rfl)⟩
                · replace hF := ff_of hb136 hF
                  refine region_do (n := 134) [.slot 117 100000 100000 (fun _ _ => (boolVP r129)),
      .slot 118 100000 100000 (fun _ _ => (boolVP r129)),
      .slot 119 100000 100000 (fun _ _ => (eqVP (.pointer none))),
      .slot 120 100000 100000 (fun _ _ => (intVP .i64 r130)),
      .res 100000 100000 (fun _ _ => (Log_e (.pointer none) none)),
      .slot 121 100000 100000 (fun _ _ => (boolVP (decide (r130 = (0 : Int))))),
      .slot 122 100000 100000 (fun _ _ => (boolVP (decide (r130 = (0 : Int))))),
      .slot 123 100000 100000 (fun _ _ => (boolVP (decide (r130 = (0 : Int))))),
      .slot 124 100000 100000 (fun _ _ => (eqVP (.pointer none))),
      .slot 125 100000 100000 (fun _ _ => (boolVP r131)),
      .res 100000 100000 (fun _ _ => (Log_e (.pointer none) none)),
      .slot 126 100000 100000 (fun _ _ => (boolVP (!r131))),
      .slot 127 100000 100000 (fun _ _ => (boolVP (!r131))),
      .slot 128 100000 100000 (fun _ _ => (boolVP (!r131))),
      .slot 129 100000 100000 (fun _ _ => (eqVP undef)),
      .slot 130 100000 100000 (fun _ _ => (eqVP undef)),
      .slot 131 100000 100000 (fun _ _ => (eqVP undef)),
      .slot 132 100000 100000 (fun _ _ => (eqVP undef)),
      .slot 133 100000 100000 (fun _ _ => (boolVP false)),
      .slot 4 100000 100000 (fun _ _ => (boolVP false))] [0, 1, 2, 3, 3, 4, 5, 6, 7, 8, 8, 9, 10, 11, 12, 13, 14, 15, 16, 17] [⟨[], [], [6], [], some 117⟩, ⟨[6], [], [7], [0], some 118⟩, ⟨[7, 1], [], [8], [0, 1], some 119⟩, ⟨[7, 8], [5], [9, 10], [0, 1, 2], some 120⟩, ⟨[7, 9], [], [11], [0, 1, 2, 3], some 121⟩, ⟨[7, 11], [], [12], [0, 1, 2, 3, 4], some 122⟩, ⟨[12], [], [13], [0, 1, 2, 3, 4, 5], some 123⟩, ⟨[13, 1], [], [14], [0, 1, 2, 3, 4, 5, 6], some 124⟩, ⟨[13, 14], [10], [15, 16], [0, 1, 2, 3, 4, 5, 6, 7], some 125⟩, ⟨[13, 15], [], [17], [0, 1, 2, 3, 4, 5, 6, 7, 8], some 126⟩, ⟨[13, 17], [], [18], [0, 1, 2, 3, 4, 5, 6, 7, 8, 9], some 127⟩, ⟨[18], [], [19], [0, 1, 2, 3, 4, 5, 6, 7, 8, 9, 10], some 128⟩, ⟨[19], [], [20], [0, 1, 2, 3, 4, 5, 6, 7, 8, 9, 10, 11], some 129⟩, ⟨[19], [], [21], [0, 1, 2, 3, 4, 5, 6, 7, 8, 9, 10, 11, 12], some 130⟩, ⟨[19], [], [22], [0, 1, 2, 3, 4, 5, 6, 7, 8, 9, 10, 11, 12, 13], some 131⟩, ⟨[19], [], [23], [0, 1, 2, 3, 4, 5, 6, 7, 8, 9, 10, 11, 12, 13, 14], some 132⟩, ⟨[19], [], [24], [0, 1, 2, 3, 4, 5, 6, 7, 8, 9, 10, 11, 12, 13, 14, 15], some 133⟩, ⟨[24], [], [25], [0, 1, 2, 3, 4, 5, 6, 7, 8, 9, 10, 11, 12, 13, 14, 15, 16], some 4⟩] [25, 3, 4, 16] mixed hn hG h (by kernel_rfl) ?_ ?_
                  · exact ⟨⟨rfl, fun β => (GOk.plain (op_call Tryd.call11 (law04_awake_ok hr129) trivial) rfl)⟩, ⟨rfl, fun β => (GOk.plain (op_move (opt 0 rfl)) rfl)⟩, ⟨rfl, fun β => (GOk.on_eq hb134 rfl rfl rfl (op_move (opt 0 rfl)))⟩, ⟨rfl, fun β => (GOk.on_eq hb134 rfl rfl rfl (op_call Tryd.call15 (digest_Log_Count_oke hr130) ⟨(opt 0 rfl), trivial⟩))⟩, ⟨rfl, fun β => (GOk.on_eq hb134 rfl rfl rfl (op_bin bin_eql (opt 0 rfl) (opc (ic (by decide)))))⟩, ⟨rfl, fun β => (GOk.plain (op_pick_t hb134 (opt 0 rfl) (opt 1 rfl)) rfl)⟩, ⟨rfl, fun β => (GOk.plain (op_move (opt 0 rfl)) rfl)⟩, ⟨rfl, fun β => (GOk.on_eq hb135 rfl rfl rfl (op_move (opt 0 rfl)))⟩, ⟨rfl, fun β => (GOk.on_eq hb135 rfl rfl rfl (op_call Tryd.call16 (digest_Log_Clash_oke hr131) ⟨(opt 0 rfl), trivial⟩))⟩, ⟨rfl, fun β => (GOk.on_eq hb135 rfl rfl rfl (op_un (un_not _) (opt 0 rfl)))⟩, ⟨rfl, fun β => (GOk.plain (op_pick_t hb135 (opt 0 rfl) (opt 1 rfl)) rfl)⟩, ⟨rfl, fun β => (GOk.plain (op_move (opt 0 rfl)) rfl)⟩, ⟨rfl, fun β => (GOk.off_v (want := true) hb136 rfl rfl rfl rfl)⟩, ⟨rfl, fun β => (GOk.off_v (want := true) hb136 rfl rfl rfl rfl)⟩, ⟨rfl, fun β => (GOk.off_v (want := true) hb136 rfl rfl rfl rfl)⟩, ⟨rfl, fun β => (GOk.off_v (want := true) hb136 rfl rfl rfl rfl)⟩, ⟨rfl, fun β => (GOk.plain (op_pick_f hb136 (opt 0 rfl) (opc (bc _))) rfl)⟩, ⟨rfl, fun β => (GOk.plain (op_assign (opt 0 rfl)) rfl)⟩, trivial⟩
                  clear h
                  intro β a w h
                  change SatL c [.slot 4 (boolVP false), .res (Log_e p9 y127), .res (RLog_e p10 y128), .res (Log_e (.pointer none) none)] a w at h
                  clear β
                  exact ⟨false, hF, h.sub [0, 1, 2, 3] (by rfl)⟩
              · replace hF := ff_of hb135 hF
                refine region_do (n := 134) [.slot 117 100000 100000 (fun _ _ => (boolVP r129)),
      .slot 118 100000 100000 (fun _ _ => (boolVP r129)),
      .slot 119 100000 100000 (fun _ _ => (eqVP (.pointer none))),
      .slot 120 100000 100000 (fun _ _ => (intVP .i64 r130)),
      .res 100000 100000 (fun _ _ => (Log_e (.pointer none) none)),
      .slot 121 100000 100000 (fun _ _ => (boolVP (decide (r130 = (0 : Int))))),
      .slot 122 100000 100000 (fun _ _ => (boolVP (decide (r130 = (0 : Int))))),
      .slot 123 100000 100000 (fun _ _ => (boolVP (decide (r130 = (0 : Int))))),
      .slot 124 100000 100000 (fun _ _ => (eqVP undef)),
      .slot 125 100000 100000 (fun _ _ => (eqVP undef)),
      .slot 126 100000 100000 (fun _ _ => (eqVP undef)),
      .slot 127 100000 100000 (fun _ _ => (boolVP false)),
      .slot 128 100000 100000 (fun _ _ => (boolVP false)),
      .slot 129 100000 100000 (fun _ _ => (eqVP undef)),
      .slot 130 100000 100000 (fun _ _ => (eqVP undef)),
      .slot 131 100000 100000 (fun _ _ => (eqVP undef)),
      .slot 132 100000 100000 (fun _ _ => (eqVP undef)),
      .slot 133 100000 100000 (fun _ _ => (boolVP false)),
      .slot 4 100000 100000 (fun _ _ => (boolVP false))] [0, 1, 2, 3, 3, 4, 5, 6, 7, 8, 9, 10, 11, 12, 13, 14, 15, 16, 17] [⟨[], [], [6], [], some 117⟩, ⟨[6], [], [7], [0], some 118⟩, ⟨[7, 1], [], [8], [0, 1], some 119⟩, ⟨[7, 8], [5], [9, 10], [0, 1, 2], some 120⟩, ⟨[7, 9], [], [11], [0, 1, 2, 3], some 121⟩, ⟨[7, 11], [], [12], [0, 1, 2, 3, 4], some 122⟩, ⟨[12], [], [13], [0, 1, 2, 3, 4, 5], some 123⟩, ⟨[13], [], [14], [0, 1, 2, 3, 4, 5, 6], some 124⟩, ⟨[13], [], [15], [0, 1, 2, 3, 4, 5, 6, 7], some 125⟩, ⟨[13], [], [16], [0, 1, 2, 3, 4, 5, 6, 7, 8], some 126⟩, ⟨[13], [], [17], [0, 1, 2, 3, 4, 5, 6, 7, 8, 9], some 127⟩, ⟨[17], [], [18], [0, 1, 2, 3, 4, 5, 6, 7, 8, 9, 10], some 128⟩, ⟨[18], [], [19], [0, 1, 2, 3, 4, 5, 6, 7, 8, 9, 10, 11], some 129⟩, ⟨[18], [], [20], [0, 1, 2, 3, 4, 5, 6, 7, 8, 9, 10, 11, 12], some 130⟩, ⟨[18], [], [21], [0, 1, 2, 3, 4, 5, 6, 7, 8, 9, 10, 11, 12, 13], some 131⟩, ⟨[18], [], [22], [0, 1, 2, 3, 4, 5, 6, 7, 8, 9, 10, 11, 12, 13, 14], some 132⟩, ⟨[18], [], [23], [0, 1, 2, 3, 4, 5, 6, 7, 8, 9, 10, 11, 12, 13, 14, 15], some 133⟩, ⟨[23], [], [24], [0, 1, 2, 3, 4, 5, 6, 7, 8, 9, 10, 11, 12, 13, 14, 15, 16], some 4⟩] [24, 3, 4, 10] mixed hn hG h (by kernel_rfl) ?_ ?_
                · exact ⟨⟨rfl, fun β => (GOk.plain (op_call Tryd.call11 (law04_awake_ok hr129) trivial) rfl)⟩, ⟨rfl, fun β => (GOk.plain (op_move (opt 0 rfl)) rfl)⟩, ⟨rfl, fun β => (GOk.on_eq hb134 rfl rfl rfl (op_move (opt 0 rfl)))⟩, ⟨rfl, fun β => (GOk.on_eq hb134 rfl rfl rfl (op_call Tryd.call15 (digest_Log_Count_oke hr130) ⟨(opt 0 rfl), trivial⟩))⟩, ⟨rfl, fun β => (GOk.on_eq hb134 rfl rfl rfl (op_bin bin_eql (opt 0 rfl) (opc (ic (by decide)))))⟩, ⟨rfl, fun β => (GOk.plain (op_pick_t hb134 (opt 0 rfl) (opt 1 rfl)) rfl)⟩, ⟨rfl, fun β => (GOk.plain (op_move (opt 0 rfl)) rfl)⟩, ⟨rfl, fun β => (GOk.off_v (want := true) hb135 rfl rfl rfl rfl)⟩, ⟨rfl, fun β => (GOk.off_v (want := true) hb135 rfl rfl rfl rfl)⟩, ⟨rfl, fun β => (GOk.off_v (want := true) hb135 rfl rfl rfl rfl)⟩, ⟨rfl, fun β => (GOk.plain (op_pick_f hb135 (opt 0 rfl) (opc (bc _))) rfl)⟩, ⟨rfl, fun β => (GOk.plain (op_move (opt 0 rfl)) rfl)⟩, ⟨rfl, fun β => (GOk.off_v (want := true) rfl rfl rfl rfl rfl)⟩, ⟨rfl, fun β => (GOk.off_v (want := true) rfl rfl rfl rfl rfl)⟩, ⟨rfl, fun β => (GOk.off_v (want := true) rfl rfl rfl rfl rfl)⟩, ⟨rfl, fun β => (GOk.off_v (want := true) rfl rfl rfl rfl rfl)⟩, ⟨rfl, fun β => (GOk.plain (op_pick_f rfl (opt 0 rfl) (opc (bc _))) rfl)⟩, ⟨rfl, fun β => (GOk.plain (op_assign (opt 0 rfl)) rfl)⟩, trivial⟩
                clear h
                intro β a w h
                change SatL c [.slot 4 (boolVP false), .res (Log_e p9 y127), .res (RLog_e p10 y128), .res (Log_e (.pointer none) none)] a w at h
                clear β
                exact ⟨false, hF, h.sub [0, 1, 2, 3] (by rfl)⟩
            · replace hF := ff_of hb134 hF
              refine region_do (n := 134) [.slot 117 100000 100000 (fun _ _ => (boolVP r129)),
      .slot 118 100000 100000 (fun _ _ => (boolVP r129)),
      .slot 119 100000 100000 (fun _ _ => (eqVP undef)),
      .slot 120 100000 100000 (fun _ _ => (eqVP undef)),
      .slot 121 100000 100000 (fun _ _ => (eqVP undef)),
      .slot 122 100000 100000 (fun _ _ => (boolVP false)),
      .slot 123 100000 100000 (fun _ _ => (boolVP false)),
      .slot 124 100000 100000 (fun _ _ => (eqVP undef)),
      .slot 125 100000 100000 (fun _ _ => (eqVP undef)),
      .slot 126 100000 100000 (fun _ _ => (eqVP undef)),
      .slot 127 100000 100000 (fun _ _ => (boolVP false)),
      .slot 128 100000 100000 (fun _ _ => (boolVP false)),
      .slot 129 100000 100000 (fun _ _ => (eqVP undef)),
      .slot 130 100000 100000 (fun _ _ => (eqVP undef)),
      .slot 131 100000 100000 (fun _ _ => (eqVP undef)),
      .slot 132 100000 100000 (fun _ _ => (eqVP undef)),
      .slot 133 100000 100000 (fun _ _ => (boolVP false)),
      .slot 4 100000 100000 (fun _ _ => (boolVP false))] [0, 1, 2, 3, 4, 5, 6, 7, 8, 9, 10, 11, 12, 13, 14, 15, 16, 17] [⟨[], [], [6], [], some 117⟩, ⟨[6], [], [7], [0], some 118⟩, ⟨[7], [], [8], [0, 1], some 119⟩, ⟨[7], [], [9], [0, 1, 2], some 120⟩, ⟨[7], [], [10], [0, 1, 2, 3], some 121⟩, ⟨[7], [], [11], [0, 1, 2, 3, 4], some 122⟩, ⟨[11], [], [12], [0, 1, 2, 3, 4, 5], some 123⟩, ⟨[12], [], [13], [0, 1, 2, 3, 4, 5, 6], some 124⟩, ⟨[12], [], [14], [0, 1, 2, 3, 4, 5, 6, 7], some 125⟩, ⟨[12], [], [15], [0, 1, 2, 3, 4, 5, 6, 7, 8], some 126⟩, ⟨[12], [], [16], [0, 1, 2, 3, 4, 5, 6, 7, 8, 9], some 127⟩, ⟨[16], [], [17], [0, 1, 2, 3, 4, 5, 6, 7, 8, 9, 10], some 128⟩, ⟨[17], [], [18], [0, 1, 2, 3, 4, 5, 6, 7, 8, 9, 10, 11], some 129⟩, ⟨[17], [], [19], [0, 1, 2, 3, 4, 5, 6, 7, 8, 9, 10, 11, 12], some 130⟩, ⟨[17], [], [20], [0, 1, 2, 3, 4, 5, 6, 7, 8, 9, 10, 11, 12, 13], some 131⟩, ⟨[17], [], [21], [0, 1, 2, 3, 4, 5, 6, 7, 8, 9, 10, 11, 12, 13, 14], some 132⟩, ⟨[17], [], [22], [0, 1, 2, 3, 4, 5, 6, 7, 8, 9, 10, 11, 12, 13, 14, 15], some 133⟩, ⟨[22], [], [23], [0, 1, 2, 3, 4, 5, 6, 7, 8, 9, 10, 11, 12, 13, 14, 15, 16], some 4⟩] [23, 3, 4, 5] mixed hn hG h (by kernel_rfl) ?_ ?_
              · exact ⟨⟨rfl, fun β => (GOk.plain (op_call Tryd.call11 (law04_awake_ok hr129) trivial) rfl)⟩, ⟨rfl, fun β => (GOk.plain (op_move (opt 0 rfl)) rfl)⟩, ⟨rfl, fun β => (GOk.off_v (want := true) hb134 rfl rfl rfl rfl)⟩, ⟨rfl, fun β => (GOk.off_v (want := true) hb134 rfl rfl rfl rfl)⟩, ⟨rfl, fun β => (GOk.off_v (want := true) hb134 rfl rfl rfl rfl)⟩, ⟨rfl, fun β => (GOk.plain (op_pick_f hb134 (opt 0 rfl) (opc (bc _))) rfl)⟩, ⟨rfl, fun β => (GOk.plain (op_move (opt 0 rfl)) rfl)⟩, ⟨rfl, fun β => (GOk.off_v (want := true) rfl rfl rfl rfl rfl)⟩, ⟨rfl, fun β => (GOk.off_v (want := true) rfl rfl rfl rfl rfl)⟩, ⟨rfl, fun β => (GOk.off_v (want := true) rfl rfl rfl rfl rfl)⟩, ⟨rfl, fun β => (GOk.plain (op_pick_f rfl (opt 0 rfl) (opc (bc _))) rfl)⟩, ⟨rfl, fun β => (GOk.plain (op_move (opt 0 rfl)) rfl)⟩, ⟨rfl, fun β => (GOk.off_v (want := true) rfl rfl rfl rfl rfl)⟩, ⟨rfl, fun β => (GOk.off_v (want := true) rfl rfl rfl rfl rfl)⟩, ⟨rfl, fun β => (GOk.off_v (want := true) rfl rfl rfl rfl rfl)⟩, ⟨rfl, fun β => (GOk.off_v (want := true) rfl rfl rfl rfl rfl)⟩, ⟨rfl, fun β => (GOk.plain (op_pick_f rfl (opt 0 rfl) (opc (bc _))) rfl)⟩, ⟨rfl, fun β => (GOk.plain (op_assign (opt 0 rfl)) rfl)⟩, trivial⟩
              clear h
              intro β a w h
              change SatL c [.slot 4 (boolVP false), .res (Log_e p9 y127), .res (RLog_e p10 y128), .res (Log_e (.pointer none) none)] a w at h
              clear β
              exact ⟨false, hF, h.sub [0, 1, 2, 3] (by rfl)⟩
          · clear h hF
            rintro a w ⟨x133, hF, h⟩
            unfold law04_DigestMakes.j3 at hF
            show Code.wp Tryd.prog _ _ a w
            refine wp_ret ?_
            obtain rfl := Option.some.inj hF
            exact ⟨.inl rfl, ret1 h Tryd.results4 (r_tmp 0 rfl) [] [] rfl rfl rfl⟩
end Go.Proofs.YtbhehllkimedaaaDoor
