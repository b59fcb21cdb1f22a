/- The functions' Lean twins and contracts, printed by this session's own program: part 3. -/
import Derived.Test.YtbhehllkimedaaaDoorG2
namespace Go.Proofs.YtbhehllkimedaaaDoor
open Go Go.RowKit Go.Proofs
set_option maxRecDepth 100000
set_option linter.unusedVariables false
def sha_Sum.b1 (a_0 : List (List UInt8)) (x7 : Int) (x8 : S_sha_State) : Option (Flow (List UInt8) (Int × S_sha_State)) := (if (decide (x7 < (a_0.length : Int))) = true then (if (0 : Int) ≤ x7 ∧ x7 < a_0.length then ((sha_State_Add x8 (a_0.getD x7.toNat default)).bind fun r16 => some (.cont (IntKind.wrap .i64 (x7 + 1), r16))) else none) else some (.brk (x7, x8)))
def sha_Sum (a_0 : List (List UInt8)) : Option (List UInt8) := ((sha_Begin).bind fun r2 => ((loopN (fun s : Int × S_sha_State => sha_Sum.b1 a_0 s.1 s.2) (((a_0.length : Int) - 0 : Int).toNat + 2) (0, r2)).bind fun cr => match cr with | .ret r => some r | .next (y21, y22) => ((sha_State_End y22).bind fun r23 => some r23)))
theorem sha_Sum_ok {a_0 : List (List UInt8)} {r : (List UInt8)} (hF : sha_Sum a_0 = some r) : CallOk Tryd.prog KG 38 [(slVP strC a_0)] [] (fun _ => []) (aggVP [bytesCk 32 r]) := by
  refine CallOk.intro 19 Tryd.func38 rfl Tryd.ntmps38 (Nat.le_of_ble_eq_true rfl) ?_
  intro c a w hG hn h
  unfold sha_Sum at hF
  change SatL c [.slot 0 (slVP strC a_0)] a w at h
  refine wp_seq ?_
  refine region_do (n := 19) [.slot 2 0 100000 (fun v1_ _ => (lpVP v1_ 0)),
      .res 0 100000 (fun v1_ _ => (lb (v1_) 24 [bytesCk 32 (List.replicate 32 0)]))] [0, 0] [⟨[], [], [1, 2], [], some 2⟩] [0, 1, 2] mixed hn hG h (by kernel_rfl) ?_ ?_
  · exact ⟨⟨rfl, fun β => (GOk.plain (op_alloc Tryd.zeroValue24 z24) rfl)⟩, trivial⟩
  clear h
  intro β a w h
  change SatL c [.slot 0 (slVP strC a_0), .slot 2 (lpVP (β 0) 0), .res (lb (β 0) 24 [bytesCk 32 (List.replicate 32 0)])] a w at h
  generalize β 0 = p1 at h
  clear β
  show Code.wp Tryd.prog _ _ a w
  refine wp_seq ?_
  obtain ⟨r2, hr2, hF⟩ := bind_some hF
  refine region_do (n := 19) [.slot 6 100000 100000 (fun _ _ => (aggVP [intsCk .u32 8 r2.f_Words, one (strVP r2.f_Rest), one (intVP .u64 r2.f_Count)])),
      .slot 3 1 100000 (fun v1_ _ => (lpVP v1_ 0)),
      .res 1 100000 (fun v1_ _ => (lb (v1_) 87 [intsCk .u32 8 ((S_sha_State.mk (List.replicate 8 0) [] (0 : Int)).f_Words), one (strVP ((S_sha_State.mk (List.replicate 8 0) [] (0 : Int)).f_Rest)), one (intVP .u64 ((S_sha_State.mk (List.replicate 8 0) [] (0 : Int)).f_Count))])),
      .res 1 100000 (fun v1_ _ => (lb (v1_) 87 [intsCk .u32 8 r2.f_Words, one (strVP r2.f_Rest), one (intVP .u64 r2.f_Count)]))] [0, 1, 1, 2] [⟨[], [], [3], [], some 6⟩, ⟨[], [], [4, 5], [0], some 3⟩, ⟨[4, 3], [5], [6], [0, 1], none⟩] [0, 1, 4, 2, 6] mixed hn hG h (by kernel_rfl) ?_ ?_
  · exact ⟨⟨rfl, fun β => (GOk.plain (op_call Tryd.call50 (sha_Begin_ok hr2) trivial) rfl)⟩, ⟨rfl, fun β => (GOk.plain (op_alloc Tryd.zeroValue87 z87) rfl)⟩, ⟨rfl, fun β => (GOk.plain (op_store_lb [] [intsCk .u32 8 ((S_sha_State.mk (List.replicate 8 0) [] (0 : Int)).f_Words), one (strVP ((S_sha_State.mk (List.replicate 8 0) [] (0 : Int)).f_Rest)), one (intVP .u64 ((S_sha_State.mk (List.replicate 8 0) [] (0 : Int)).f_Count))] [] [intsCk .u32 8 r2.f_Words, one (strVP r2.f_Rest), one (intVP .u64 r2.f_Count)] Tryd.sizeOf87 (opt 0 rfl) (opt 1 rfl) (cells_agg _) rfl rfl rfl) rfl)⟩, trivial⟩
  clear h
  intro β a w h
  change SatL c [.slot 0 (slVP strC a_0), .slot 2 (lpVP p1 0), .slot 3 (lpVP (β 1) 0), .res (lb p1 24 [bytesCk 32 (List.replicate 32 0)]), .res (lb (β 1) 87 [intsCk .u32 8 r2.f_Words, one (strVP r2.f_Rest), one (intVP .u64 r2.f_Count)])] a w at h
  generalize β 1 = p3 at h
  clear β
  show Code.wp Tryd.prog _ _ a w
  refine wp_seq ?_
  refine wp_seq ?_
  refine region_do (n := 19) [.slot 7 100000 100000 (fun _ _ => (slVP strC a_0)),
      .slot 8 100000 100000 (fun _ _ => (intVP .i64 (a_0.length : Int))),
      .slot 9 100000 100000 (fun _ _ => (intVP .i64 0))] [0, 1, 2] [⟨[0], [], [5], [], some 7⟩, ⟨[5], [], [6], [0], some 8⟩, ⟨[], [], [7], [0, 1], some 9⟩] [1, 2, 5, 6, 7, 3, 4] mixed hn hG h (by kernel_rfl) ?_ ?_
  · exact ⟨⟨rfl, fun β => (GOk.plain (op_move (opt 0 rfl)) rfl)⟩, ⟨rfl, fun β => (GOk.plain (op_len_sl Tryd.underlying22 (opt 0 rfl)) rfl)⟩, ⟨rfl, fun β => (GOk.plain (op_move (opc (ic (by decide)))) rfl)⟩, trivial⟩
  clear h
  intro β a w h
  change SatL c [.slot 2 (lpVP p1 0), .slot 3 (lpVP p3 0), .slot 7 (slVP strC a_0), .slot 8 (intVP .i64 (a_0.length : Int)), .slot 9 (intVP .i64 0), .res (lb p1 24 [bytesCk 32 (List.replicate 32 0)]), .res (lb p3 87 [intsCk .u32 8 r2.f_Words, one (strVP r2.f_Rest), one (intVP .u64 r2.f_Count)])] a w at h
  clear β
  show Code.wp Tryd.prog _ _ a w
  refine wp_block ?_
  obtain ⟨cr17, hl18, hF⟩ := bind_some hF
  refine wp_mono (wp_loopN (R := (List UInt8)) (S := Int × S_sha_State) (fun s a w => SatL c [.slot 2 (lpVP p1 0), .slot 3 (lpVP p3 0), .slot 7 (slVP strC a_0), .slot 8 (intVP .i64 (a_0.length : Int)), .slot 9 (intVP .i64 s.1), .res (lb p1 24 [bytesCk 32 (List.replicate 32 0)]), .res (lb p3 87 [intsCk .u32 8 s.2.f_Words, one (strVP s.2.f_Rest), one (intVP .u64 s.2.f_Count)])] a w) (fun res e a w => match res with | .next s => e = .exit 0 ∧ SatL c [.slot 2 (lpVP p1 0), .slot 3 (lpVP p3 0), .res (lb p1 24 [bytesCk 32 (List.replicate 32 0)]), .res (lb p3 87 [intsCk .u32 8 s.2.f_Words, one (strVP s.2.f_Rest), one (intVP .u64 s.2.f_Count)])] a w | .ret r => e = .ret ∧ RetOk Tryd.prog Tryd.f38 c (aggVP [bytesCk 32 r]) (fun _ => []) a w) ?_ _ (0, r2) _ _ _ (h.sub [0, 1, 2, 3, 4, 5, 6] (by rfl)) hl18) ?_
  · clear hl18 hF h
    intro s a w o h hF
    obtain ⟨x7, x8⟩ := s
    change sha_Sum.b1 a_0 x7 x8 = some o at hF
    unfold sha_Sum.b1 at hF
    change SatL c [.slot 2 (lpVP p1 0), .slot 3 (lpVP p3 0), .slot 7 (slVP strC a_0), .slot 8 (intVP .i64 (a_0.length : Int)), .slot 9 (intVP .i64 x7), .res (lb p1 24 [bytesCk 32 (List.replicate 32 0)]), .res (lb p3 87 [intsCk .u32 8 x8.f_Words, one (strVP x8.f_Rest), one (intVP .u64 x8.f_Count)])] a w at h
    refine wp_seq ?_
    refine region_do (n := 19) [.slot 10 100000 100000 (fun _ _ => (boolVP (decide (x7 < (a_0.length : Int)))))] [0] [⟨[4, 3], [], [7], [], some 10⟩] [0, 1, 2, 3, 4, 7, 5, 6] mixed hn hG h (by kernel_rfl) ?_ ?_
    · exact ⟨⟨rfl, fun β => (GOk.plain (op_bin bin_lss (opt 0 rfl) (opt 1 rfl)) rfl)⟩, trivial⟩
    clear h
    intro β a w h
    change SatL c [.slot 2 (lpVP p1 0), .slot 3 (lpVP p3 0), .slot 7 (slVP strC a_0), .slot 8 (intVP .i64 (a_0.length : Int)), .slot 9 (intVP .i64 x7), .slot 10 (boolVP (decide (x7 < (a_0.length : Int)))), .res (lb p1 24 [bytesCk 32 (List.replicate 32 0)]), .res (lb p3 87 [intsCk .u32 8 x8.f_Words, one (strVP x8.f_Rest), one (intVP .u64 x8.f_Count)])] a w at h
    clear β
    show Code.wp Tryd.prog _ _ a w
    refine wp_seq ?_
    refine cond_L h 5 rfl (fun hb14 => ?_) (fun hb14 => ?_)
    · replace hF := tt_of hb14 hF
      replace h := h.sub [0, 1, 2, 3, 4, 6, 7] (by rfl)
      change SatL c [.slot 2 (lpVP p1 0), .slot 3 (lpVP p3 0), .slot 7 (slVP strC a_0), .slot 8 (intVP .i64 (a_0.length : Int)), .slot 9 (intVP .i64 x7), .res (lb p1 24 [bytesCk 32 (List.replicate 32 0)]), .res (lb p3 87 [intsCk .u32 8 x8.f_Words, one (strVP x8.f_Rest), one (intVP .u64 x8.f_Count)])] a w at h
      refine wp_skip ?_
      show Code.wp Tryd.prog _ _ a w
      refine wp_seq ?_
      refine wp_block ?_
      refine wp_seq ?_
      obtain ⟨hv15, hF⟩ := ite_some hF
      refine region_do (n := 19) [.slot 11 100000 100000 (fun _ _ => (ppVP [one (strVP (a_0.getD x7.toNat default))])),
      .slot 12 100000 100000 (fun _ _ => (strVP (a_0.getD x7.toNat default))),
      .slot 5 100000 100000 (fun _ _ => (strVP (a_0.getD x7.toNat default)))] [0, 1, 2] [⟨[2, 4], [], [7], [], some 11⟩, ⟨[7], [], [8], [0], some 12⟩, ⟨[8], [], [9], [0, 1], some 5⟩] [0, 1, 9, 2, 3, 4, 5, 6] mixed hn hG h (by kernel_rfl) ?_ ?_
      · exact ⟨⟨rfl, fun β => (GOk.plain (op_indexAddr_sl Tryd.underlying22 Tryd.sizeOf9 lens_strC (opt 0 rfl) (opt 1 rfl) hv15) rfl)⟩, ⟨rfl, fun β => (GOk.plain (op_load_pp1 [] Tryd.isAgg9 (opt 0 rfl)) rfl)⟩, ⟨rfl, fun β => (GOk.plain (op_assign (opt 0 rfl)) rfl)⟩, trivial⟩
      clear h
      intro β a w h
      change SatL c [.slot 2 (lpVP p1 0), .slot 3 (lpVP p3 0), .slot 5 (strVP (a_0.getD x7.toNat default)), .slot 7 (slVP strC a_0), .slot 8 (intVP .i64 (a_0.length : Int)), .slot 9 (intVP .i64 x7), .res (lb p1 24 [bytesCk 32 (List.replicate 32 0)]), .res (lb p3 87 [intsCk .u32 8 x8.f_Words, one (strVP x8.f_Rest), one (intVP .u64 x8.f_Count)])] a w at h
      clear β
      show Code.wp Tryd.prog _ _ a w
      obtain ⟨r16, hr16, hF⟩ := bind_some hF
      refine region_do (n := 19) [.slot 13 100000 100000 (fun _ _ => (aggVP [intsCk .u32 8 x8.f_Words, one (strVP x8.f_Rest), one (intVP .u64 x8.f_Count)])),
      .slot 14 100000 100000 (fun _ _ => (strVP (a_0.getD x7.toNat default))),
      .slot 15 100000 100000 (fun _ _ => (aggVP [intsCk .u32 8 r16.f_Words, one (strVP r16.f_Rest), one (intVP .u64 r16.f_Count)])),
      .res 100000 100000 (fun _ _ => (lb p3 87 [intsCk .u32 8 r16.f_Words, one (strVP r16.f_Rest), one (intVP .u64 r16.f_Count)]))] [0, 1, 2, 3] [⟨[1, 7], [], [8], [], some 13⟩, ⟨[2], [], [9], [0], some 14⟩, ⟨[8, 9], [], [10], [0, 1], some 15⟩, ⟨[1, 10], [7], [11], [0, 1, 2], none⟩] [0, 1, 3, 4, 5, 6, 11] mixed hn hG h (by kernel_rfl) ?_ ?_
      · exact ⟨⟨rfl, fun β => (GOk.plain (op_load_lb [] [intsCk .u32 8 x8.f_Words, one (strVP x8.f_Rest), one (intVP .u64 x8.f_Count)] [] 1 Tryd.isAgg87 Tryd.sizeOf87 (opt 0 rfl) rfl rfl rfl) rfl)⟩, ⟨rfl, fun β => (GOk.plain (op_move (opt 0 rfl)) rfl)⟩, ⟨rfl, fun β => (GOk.plain (op_call Tryd.call51 (sha_State_Add_ok hr16) ⟨(opt 0 rfl), (opt 1 rfl), trivial⟩) rfl)⟩, ⟨rfl, fun β => (GOk.plain (op_store_lb [] [intsCk .u32 8 x8.f_Words, one (strVP x8.f_Rest), one (intVP .u64 x8.f_Count)] [] [intsCk .u32 8 r16.f_Words, one (strVP r16.f_Rest), one (intVP .u64 r16.f_Count)] Tryd.sizeOf87 (opt 0 rfl) (opt 1 rfl) (cells_agg _) rfl rfl rfl) rfl)⟩, trivial⟩
      clear h
      intro β a w h
      change SatL c [.slot 2 (lpVP p1 0), .slot 3 (lpVP p3 0), .slot 7 (slVP strC a_0), .slot 8 (intVP .i64 (a_0.length : Int)), .slot 9 (intVP .i64 x7), .res (lb p1 24 [bytesCk 32 (List.replicate 32 0)]), .res (lb p3 87 [intsCk .u32 8 r16.f_Words, one (strVP r16.f_Rest), one (intVP .u64 r16.f_Count)])] a w at h
      clear β
      show Code.wp Tryd.prog _ _ a w
      refine region_do (n := 19) [.slot 16 100000 100000 (fun _ _ => (intVP .i64 (IntKind.wrap .i64 (x7 + 1)))),
      .slot 9 100000 100000 (fun _ _ => (intVP .i64 (IntKind.wrap .i64 (x7 + 1))))] [0, 1] [⟨[4], [], [7], [], some 16⟩, ⟨[7], [4], [8], [0], some 9⟩] [0, 1, 2, 3, 8, 5, 6] mixed hn hG h (by kernel_rfl) ?_ ?_
      · exact ⟨⟨rfl, fun β => (GOk.plain (op_bin bin_add (opt 0 rfl) (opc (ic (by decide)))) rfl)⟩, ⟨rfl, fun β => (GOk.drop _ (GOk.plain (op_move (opt 0 rfl)) rfl))⟩, trivial⟩
      clear h
      intro β a w h
      change SatL c [.slot 2 (lpVP p1 0), .slot 3 (lpVP p3 0), .slot 7 (slVP strC a_0), .slot 8 (intVP .i64 (a_0.length : Int)), .slot 9 (intVP .i64 (IntKind.wrap .i64 (x7 + 1))), .res (lb p1 24 [bytesCk 32 (List.replicate 32 0)]), .res (lb p3 87 [intsCk .u32 8 r16.f_Words, one (strVP r16.f_Rest), one (intVP .u64 r16.f_Count)])] a w at h
      clear β
      obtain rfl := Option.some.inj hF
      exact ⟨rfl, h.sub [0, 1, 2, 3, 4, 5, 6] (by rfl)⟩
    · replace hF := ff_of hb14 hF
      replace h := h.sub [0, 1, 2, 3, 4, 6, 7] (by rfl)
      change SatL c [.slot 2 (lpVP p1 0), .slot 3 (lpVP p3 0), .slot 7 (slVP strC a_0), .slot 8 (intVP .i64 (a_0.length : Int)), .slot 9 (intVP .i64 x7), .res (lb p1 24 [bytesCk 32 (List.replicate 32 0)]), .res (lb p3 87 [intsCk .u32 8 x8.f_Words, one (strVP x8.f_Rest), one (intVP .u64 x8.f_Count)])] a w at h
      refine wp_exit ?_
      obtain rfl := Option.some.inj hF
      exact ⟨exit_ne _, rfl, h.sub [0, 1, 5, 6] (by rfl)⟩
  · clear hl18
    intro e a w hq
    cases cr17 with
    | ret r19 =>
      obtain ⟨rfl, hq⟩ := hq
      obtain rfl := Option.some.inj hF
      exact ⟨.inl rfl, hq⟩
    | next s20 =>
      obtain ⟨y21, y22⟩ := s20
      obtain ⟨rfl, h⟩ := hq
      change SatL c [.slot 2 (lpVP p1 0), .slot 3 (lpVP p3 0), .res (lb p1 24 [bytesCk 32 (List.replicate 32 0)]), .res (lb p3 87 [intsCk .u32 8 y22.f_Words, one (strVP y22.f_Rest), one (intVP .u64 y22.f_Count)])] a w at h
      refine inBlock_at ?_
      show Code.wp Tryd.prog _ _ a w
      refine wp_seq ?_
      obtain ⟨r23, hr23, hF⟩ := bind_some hF
      refine region_do (n := 19) [.slot 17 100000 100000 (fun _ _ => (aggVP [intsCk .u32 8 y22.f_Words, one (strVP y22.f_Rest), one (intVP .u64 y22.f_Count)])),
      .slot 18 100000 100000 (fun _ _ => (aggVP [bytesCk 32 r23])),
      .res 100000 100000 (fun _ _ => (lb p1 24 [bytesCk 32 r23]))] [0, 1, 2] [⟨[1, 3], [], [4], [], some 17⟩, ⟨[4], [], [5], [0], some 18⟩, ⟨[0, 5], [2], [6], [0, 1], none⟩] [0, 6] mixed hn hG h (by kernel_rfl) ?_ ?_
      · exact ⟨⟨rfl, fun β => (GOk.plain (op_load_lb [] [intsCk .u32 8 y22.f_Words, one (strVP y22.f_Rest), one (intVP .u64 y22.f_Count)] [] 1 Tryd.isAgg87 Tryd.sizeOf87 (opt 0 rfl) rfl rfl rfl) rfl)⟩, ⟨rfl, fun β => (GOk.plain (op_call Tryd.call52 (sha_State_End_ok hr23) ⟨(opt 0 rfl), trivial⟩) rfl)⟩, ⟨rfl, fun β => (GOk.plain (op_store_lb [] [bytesCk 32 (List.replicate 32 0)] [] [bytesCk 32 r23] Tryd.sizeOf24 (opt 0 rfl) (opt 1 rfl) (cells_agg _) rfl rfl rfl) rfl)⟩, trivial⟩
      clear h
      intro β a w h
      change SatL c [.slot 2 (lpVP p1 0), .res (lb p1 24 [bytesCk 32 r23])] a w at h
      clear β
      show Code.wp Tryd.prog _ _ a w
      refine wp_ret ?_
      obtain rfl := Option.some.inj hF
      exact ⟨.inl rfl, ret1 h Tryd.results38 (r_cell 0 1 rfl rfl Tryd.isAgg24 Tryd.sizeOf24 rfl) [] [] rfl rfl rfl⟩

def digest_Log_note.n (a_1 : List UInt8) (a_2 : List UInt8) : Option (Option O_Log) := some none
def digest_Log_note.j2 (x6 : List ((List UInt8) × (List UInt8))) (x7 : List ((List UInt8) × Bool)) : Option (Option O_Log) := some (some ⟨x6, x7⟩)
def digest_Log_note.j1 (s_0 : O_Log) (a_1 : List UInt8) (a_2 : List UInt8) (x5 : Bool) : Option (Option O_Log) := (if x5 = true then digest_Log_note.j2 s_0.f_inputs (upd a_2 true s_0.f_others) else digest_Log_note.j2 (upd a_1 a_2 s_0.f_inputs) s_0.f_others)
def digest_Log_note.s (s_0 : O_Log) (a_1 : List UInt8) (a_2 : List UInt8) : Option (Option O_Log) := (if ((lkp a_1 s_0.f_inputs).isSome) = true then digest_Log_note.j1 s_0 a_1 a_2 (!decide (((lkp a_1 s_0.f_inputs).getD []) = a_2)) else digest_Log_note.j1 s_0 a_1 a_2 false)
def digest_Log_note (L_0 : Option O_Log) (a_1 : List UInt8) (a_2 : List UInt8) : Option (Option O_Log) := match L_0 with | none => digest_Log_note.n a_1 a_2 | some s_0 => digest_Log_note.s s_0 a_1 a_2
theorem digest_Log_note_ok {p_0 : Value} {L_0 : Option O_Log} {a_1 : List UInt8} {a_2 : List UInt8} {r : (Option O_Log)} (hF : digest_Log_note L_0 a_1 a_2 = some r) : CallOk Tryd.prog KG 40 [(eqVP p_0), (aggVP [bytesCk 32 a_1]), (strVP a_2)] [(Log_e p_0 L_0)] (fun _ => [Log_e p_0 r]) (tupVP []) := by
  refine CallOk.intro 36 Tryd.func40 rfl Tryd.ntmps40 (Nat.le_of_ble_eq_true rfl) ?_
  intro c a w hG hn h
  unfold digest_Log_note at hF
  change SatL c [.slot 0 (eqVP p_0), .slot 1 (aggVP [bytesCk 32 a_1]), .slot 2 (strVP a_2), .res (Log_e p_0 L_0)] a w at h
  obtain ⟨h_0_0, h⟩ := h.ex 3 rfl
  obtain ⟨h_0_1, h⟩ := h.ex 3 rfl
  change SatL c [.slot 0 (eqVP p_0), .slot 1 (aggVP [bytesCk 32 a_1]), .slot 2 (strVP a_2), .res (Log_o p_0 h_0_0 h_0_1 L_0)] a w at h
  cases L_0 with
  | none =>
    change digest_Log_note.n a_1 a_2 = some r at hF
    unfold digest_Log_note.n at hF
    obtain rfl := h.isp 3 rfl (fun _ _ _ q => q.2)
    replace h := h.slotc 0 rfl (V' := ptrVP (.pointer none) false) (fun _ _ h => ⟨h, rfl⟩)
    change SatL c [.slot 0 (ptrVP (.pointer none) false), .slot 1 (aggVP [bytesCk 32 a_1]), .slot 2 (strVP a_2), .res (Log_o (.pointer none) h_0_0 h_0_1 none)] a w at h
    refine wp_seq ?_
    refine region_do (n := 36) [.slot 4 0 100000 (fun v1_ _ => (lpVP v1_ 0)),
      .res 0 100000 (fun v1_ _ => (lb (v1_) 24 [bytesCk 32 a_1]))] [0, 0] [⟨[1], [], [4, 5], [], some 4⟩] [0, 2, 4, 3, 5] mixed hn hG h (by kernel_rfl) ?_ ?_
    · exact ⟨⟨rfl, fun β => (GOk.plain (op_box (opt 0 rfl) (cells_agg _)) rfl)⟩, trivial⟩
    clear h
    intro β a w h
    change SatL c [.slot 0 (ptrVP (.pointer none) false), .slot 2 (strVP a_2), .slot 4 (lpVP (β 0) 0), .res (Log_o (.pointer none) h_0_0 h_0_1 none), .res (lb (β 0) 24 [bytesCk 32 a_1])] a w at h
    generalize β 0 = p1 at h
    clear β
    show Code.wp Tryd.prog _ _ a w
    refine wp_seq ?_
    refine wp_seq ?_
    refine region_do (n := 36) [.slot 8 100000 100000 (fun _ _ => (ptrVP (.pointer none) false)),
      .slot 9 100000 100000 (fun _ _ => (boolVP true))] [0, 1] [⟨[0], [], [5], [], some 8⟩, ⟨[5], [], [6], [0], some 9⟩] [0, 1, 2, 6, 3, 4] mixed hn hG h (by kernel_rfl) ?_ ?_
    · exact ⟨⟨rfl, fun β => (GOk.plain (op_move (opt 0 rfl)) rfl)⟩, ⟨rfl, fun β => (GOk.plain (op_bin (bin_pnil Tryd.underlying30) (opt 0 rfl) (opc (ec _))) rfl)⟩, trivial⟩
    clear h
    intro β a w h
    change SatL c [.slot 0 (ptrVP (.pointer none) false), .slot 2 (strVP a_2), .slot 4 (lpVP p1 0), .slot 9 (boolVP true), .res (Log_o (.pointer none) h_0_0 h_0_1 none), .res (lb p1 24 [bytesCk 32 a_1])] a w at h
    clear β
    show Code.wp Tryd.prog _ _ a w
    refine cond_L h 3 rfl (fun hb2 => ?_) (fun hb2 => ?_)
    · skip
      replace h := h.sub [4] (by rfl)
      change SatL c [.res (Log_o (.pointer none) h_0_0 h_0_1 none)] a w at h
      refine wp_ret ?_
      replace h := h.conv 0 rfl Log_packo
      change SatL c [.res (Log_e (.pointer none) none)] a w at h
      obtain rfl := Option.some.inj hF
      exact ⟨.inl rfl, retn h (rs := []) (Vs := []) Tryd.results40 (by decide) trivial [0] [(Log_e (.pointer none) none)] rfl rfl rfl⟩
    · cases hb2
  | some s_0 =>
    change digest_Log_note.s s_0 a_1 a_2 = some r at hF
    unfold digest_Log_note.s at hF
    have hp := h.isp 3 rfl (fun Φ f w q => Log_lp Φ f w q)
    replace h := h.slotc 0 rfl (V' := lpVP p_0 0) (fun _ _ h => eq_lp h hp)
    replace h := h.sep (R := lb p_0 71 [one (eqVP h_0_0), one (eqVP h_0_1)]) (S := (RP.sep (mapR h_0_0 arrK (fun l => l.length = 32) (fun u y => RP.val (strVP y) u) s_0.f_inputs) (mapR h_0_1 strK (fun _ => True) (fun u y => RP.val (boolVP y) u) s_0.f_others))) 3 rfl
    replace h := h.sep (R := mapR h_0_0 arrK (fun l => l.length = 32) (fun u y => RP.val (strVP y) u) s_0.f_inputs) (S := (mapR h_0_1 strK (fun _ => True) (fun u y => RP.val (boolVP y) u) s_0.f_others)) 4 rfl
    replace h := h.sub [0, 1, 2, 3, 4, 5] (by rfl)
    change SatL c [.slot 0 (lpVP p_0 0), .slot 1 (aggVP [bytesCk 32 a_1]), .slot 2 (strVP a_2), .res (lb p_0 71 [one (eqVP h_0_0), one (eqVP h_0_1)]), .res (mapR h_0_0 arrK (fun l => l.length = 32) (fun u y => RP.val (strVP y) u) s_0.f_inputs), .res (mapR h_0_1 strK (fun _ => True) (fun u y => RP.val (boolVP y) u) s_0.f_others)] a w at h
    refine wp_seq ?_
    refine region_do (n := 36) [.slot 4 0 100000 (fun v1_ _ => (lpVP v1_ 0)),
      .res 0 100000 (fun v1_ _ => (lb (v1_) 24 [bytesCk 32 a_1]))] [0, 0] [⟨[1], [], [6, 7], [], some 4⟩] [0, 2, 6, 3, 4, 5, 7] mixed hn hG h (by kernel_rfl) ?_ ?_
    · exact ⟨⟨rfl, fun β => (GOk.plain (op_box (opt 0 rfl) (cells_agg _)) rfl)⟩, trivial⟩
    clear h
    intro β a w h
    change SatL c [.slot 0 (lpVP p_0 0), .slot 2 (strVP a_2), .slot 4 (lpVP (β 0) 0), .res (lb p_0 71 [one (eqVP h_0_0), one (eqVP h_0_1)]), .res (mapR h_0_0 arrK (fun l => l.length = 32) (fun u y => RP.val (strVP y) u) s_0.f_inputs), .res (mapR h_0_1 strK (fun _ => True) (fun u y => RP.val (boolVP y) u) s_0.f_others), .res (lb (β 0) 24 [bytesCk 32 a_1])] a w at h
    generalize β 0 = p3 at h
    clear β
    show Code.wp Tryd.prog _ _ a w
    refine wp_seq ?_
    refine wp_seq ?_
    refine region_do (n := 36) [.slot 8 100000 100000 (fun _ _ => (lpVP p_0 0)),
      .slot 9 100000 100000 (fun _ _ => (boolVP false))] [0, 1] [⟨[0], [], [7], [], some 8⟩, ⟨[7], [], [8], [0], some 9⟩] [0, 1, 2, 8, 3, 4, 5, 6] mixed hn hG h (by kernel_rfl) ?_ ?_
    · exact ⟨⟨rfl, fun β => (GOk.plain (op_move (opt 0 rfl)) rfl)⟩, ⟨rfl, fun β => (GOk.plain (op_bin (bin_pnil Tryd.underlying30) (lp_ptr (opt 0 rfl)) (opc (ec _))) rfl)⟩, trivial⟩
    clear h
    intro β a w h
    change SatL c [.slot 0 (lpVP p_0 0), .slot 2 (strVP a_2), .slot 4 (lpVP p3 0), .slot 9 (boolVP false), .res (lb p_0 71 [one (eqVP h_0_0), one (eqVP h_0_1)]), .res (mapR h_0_0 arrK (fun l => l.length = 32) (fun u y => RP.val (strVP y) u) s_0.f_inputs), .res (mapR h_0_1 strK (fun _ => True) (fun u y => RP.val (boolVP y) u) s_0.f_others), .res (lb p3 24 [bytesCk 32 a_1])] a w at h
    clear β
    show Code.wp Tryd.prog _ _ a w
    refine cond_L h 3 rfl (fun hb4 => ?_) (fun hb4 => ?_)
    · cases hb4
    · skip
      replace h := h.sub [0, 1, 2, 4, 5, 6, 7] (by rfl)
      change SatL c [.slot 0 (lpVP p_0 0), .slot 2 (strVP a_2), .slot 4 (lpVP p3 0), .res (lb p_0 71 [one (eqVP h_0_0), one (eqVP h_0_1)]), .res (mapR h_0_0 arrK (fun l => l.length = 32) (fun u y => RP.val (strVP y) u) s_0.f_inputs), .res (mapR h_0_1 strK (fun _ => True) (fun u y => RP.val (boolVP y) u) s_0.f_others), .res (lb p3 24 [bytesCk 32 a_1])] a w at h
      refine wp_skip ?_
      show Code.wp Tryd.prog _ _ a w
      refine wp_seq ?_
      refine region_do (n := 36) [.slot 11 100000 100000 (fun _ _ => (lpVP p_0 0)),
      .slot 12 100000 100000 (fun _ _ => (lpVP p_0 0)),
      .slot 13 100000 100000 (fun _ _ => (lpVP p_0 0)),
      .slot 14 100000 100000 (fun _ _ => (eqVP h_0_0)),
      .slot 15 100000 100000 (fun _ _ => (aggVP [bytesCk 32 a_1])),
      .slot 16 100000 100000 (fun _ _ => (tupVP [(strVP ((lkp a_1 s_0.f_inputs).getD [])), (boolVP ((lkp a_1 s_0.f_inputs).isSome))])),
      .slot 10 100000 100000 (fun _ _ => (tupVP [(strVP ((lkp a_1 s_0.f_inputs).getD [])), (boolVP ((lkp a_1 s_0.f_inputs).isSome))])),
      .slot 17 100000 100000 (fun _ _ => (strVP ((lkp a_1 s_0.f_inputs).getD []))),
      .slot 18 100000 100000 (fun _ _ => (boolVP ((lkp a_1 s_0.f_inputs).isSome))),
      .slot 6 100000 100000 (fun _ _ => (strVP ((lkp a_1 s_0.f_inputs).getD []))),
      .slot 7 100000 100000 (fun _ _ => (boolVP ((lkp a_1 s_0.f_inputs).isSome)))] [0, 1, 2, 3, 4, 5, 6, 7, 8, 9, 10] [⟨[0], [], [7], [], some 11⟩, ⟨[7], [], [8], [0], some 12⟩, ⟨[8], [], [9], [0, 1], some 13⟩, ⟨[9, 3], [], [10], [0, 1, 2], some 14⟩, ⟨[2, 6], [], [11], [], some 15⟩, ⟨[10, 11, 4], [], [12], [0, 1, 2, 3, 4], some 16⟩, ⟨[12], [], [13], [0, 1, 2, 3, 4, 5], some 10⟩, ⟨[13], [], [14], [0, 1, 2, 3, 4, 5, 6], some 17⟩, ⟨[13], [], [15], [0, 1, 2, 3, 4, 5, 6], some 18⟩, ⟨[14], [], [16], [0, 1, 2, 3, 4, 5, 6, 7], some 6⟩, ⟨[15], [], [17], [0, 1, 2, 3, 4, 5, 6, 7, 8, 9], some 7⟩] [0, 1, 2, 16, 17, 3, 4, 5, 6] mixed hn hG h (by kernel_rfl) ?_ ?_
      · exact ⟨⟨rfl, fun β => (GOk.plain (op_move (opt 0 rfl)) rfl)⟩, ⟨rfl, fun β => (GOk.plain (op_nilCheck (opt 0 rfl) (ptr_lp _ _)) rfl)⟩, ⟨rfl, fun β => (GOk.plain (op_fieldAddr_lbm (p := p_0) (n := 1) 0 0 Tryd.underlying71 rfl Tryd.sizeOf68 (by decide) (opt 0 rfl) rfl) rfl)⟩, ⟨rfl, fun β => (GOk.plain (op_load_lb1 [] [one (eqVP h_0_1)] 1 Tryd.isAgg68 (opt 0 rfl) rfl rfl) rfl)⟩, ⟨rfl, fun β => (GOk.plain (op_load_lb [] [bytesCk 32 a_1] [] 1 Tryd.isAgg24 Tryd.sizeOf24 (opt 0 rfl) rfl rfl rfl) rfl)⟩, ⟨rfl, fun β => (GOk.plain (op_lookup strVP [] 2 Tryd.underlying68 (keyArr Tryd.underlying24 Tryd.underlying5 Tryd.type5 Tryd.sizeOf5 Tryd.isAgg5) Tryd.zeroValue9 (opt 0 rfl) (opt 1 rfl) hk_arr rfl res_id (fun _ _ _ _ _ h => h.2) (fun _ => ⟨rfl, by decide⟩)) rfl)⟩, ⟨rfl, fun β => (GOk.plain (op_move (opt 0 rfl)) rfl)⟩, ⟨rfl, fun β => (GOk.plain (op_extract (opt 0 rfl) rfl) rfl)⟩, ⟨rfl, fun β => (GOk.plain (op_extract (opt 0 rfl) rfl) rfl)⟩, ⟨rfl, fun β => (GOk.plain (op_assign (opt 0 rfl)) rfl)⟩, ⟨rfl, fun β => (GOk.plain (op_assign (opt 0 rfl)) rfl)⟩, trivial⟩
      clear h
      intro β a w h
      change SatL c [.slot 0 (lpVP p_0 0), .slot 2 (strVP a_2), .slot 4 (lpVP p3 0), .slot 6 (strVP ((lkp a_1 s_0.f_inputs).getD [])), .slot 7 (boolVP ((lkp a_1 s_0.f_inputs).isSome)), .res (lb p_0 71 [one (eqVP h_0_0), one (eqVP h_0_1)]), .res (mapR h_0_0 arrK (fun l => l.length = 32) (fun u y => RP.val (strVP y) u) s_0.f_inputs), .res (mapR h_0_1 strK (fun _ => True) (fun u y => RP.val (boolVP y) u) s_0.f_others), .res (lb p3 24 [bytesCk 32 a_1])] a w at h
      clear β
      show Code.wp Tryd.prog _ _ a w
      refine wp_seq ?_
      refine wp_cut (fun a w => ∃ (x5 : Bool), digest_Log_note.j1 s_0 a_1 a_2 x5 = some r ∧ SatL c [.slot 0 (lpVP p_0 0), .slot 2 (strVP a_2), .slot 4 (lpVP p3 0), .slot 24 (boolVP x5), .res (lb p_0 71 [one (eqVP h_0_0), one (eqVP h_0_1)]), .res (mapR h_0_0 arrK (fun l => l.length = 32) (fun u y => RP.val (strVP y) u) s_0.f_inputs), .res (mapR h_0_1 strK (fun _ => True) (fun u y => RP.val (boolVP y) u) s_0.f_others), .res (lb p3 24 [bytesCk 32 a_1])] a w) ?_ ?_
      · rcases Bool.eq_false_or_eq_true ((lkp a_1 s_0.f_inputs).isSome) with hb9 | hb9
        · replace hF := tt_of hb9 hF
          refine region_do (n := 36) [.slot 19 100000 100000 (fun _ _ => (boolVP ((lkp a_1 s_0.f_inputs).isSome))),
      .slot 20 100000 100000 (fun _ _ => (boolVP ((lkp a_1 s_0.f_inputs).isSome))),
      .slot 21 100000 100000 (fun _ _ => (strVP ((lkp a_1 s_0.f_inputs).getD []))),
      .slot 22 100000 100000 (fun _ _ => (strVP a_2)),
      .slot 23 100000 100000 (fun _ _ => (boolVP (!decide (((lkp a_1 s_0.f_inputs).getD []) = a_2)))),
      .slot 24 100000 100000 (fun _ _ => (boolVP (!decide (((lkp a_1 s_0.f_inputs).getD []) = a_2))))] [0, 1, 2, 3, 4, 5] [⟨[4], [], [9], [], some 19⟩, ⟨[9], [], [10], [0], some 20⟩, ⟨[10, 3], [], [11], [0, 1], some 21⟩, ⟨[10, 1], [], [12], [0, 1, 2], some 22⟩, ⟨[10, 11, 12], [], [13], [0, 1, 2, 3], some 23⟩, ⟨[10, 13], [], [14], [0, 1, 2, 3, 4], some 24⟩] [0, 1, 2, 14, 5, 6, 7, 8] mixed hn hG h (by kernel_rfl) ?_ ?_
          · exact ⟨⟨rfl, fun β => (GOk.plain (op_move (opt 0 rfl)) rfl)⟩, ⟨rfl, fun β => (GOk.plain (op_move (opt 0 rfl)) rfl)⟩, ⟨rfl, fun β => (GOk.on_eq hb9 rfl rfl rfl (op_move (opt 0 rfl)))⟩, ⟨rfl, fun β => (GOk.on_eq hb9 rfl rfl rfl (op_move (opt 0 rfl)))⟩, ⟨rfl, fun β => (GOk.on_eq hb9 rfl rfl rfl (op_bin bin_sneq (opt 0 rfl) (opt 1 rfl)))⟩, ⟨rfl, fun β => (GOk.plain (op_pick_t hb9 (opt 0 rfl) (opt 1 rfl)) rfl)⟩, trivial⟩
          clear h
          intro β a w h
          change SatL c [.slot 0 (lpVP p_0 0), .slot 2 (strVP a_2), .slot 4 (lpVP p3 0), .slot 24 (boolVP (!decide (((lkp a_1 s_0.f_inputs).getD []) = a_2))), .res (lb p_0 71 [one (eqVP h_0_0), one (eqVP h_0_1)]), .res (mapR h_0_0 arrK (fun l => l.length = 32) (fun u y => RP.val (strVP y) u) s_0.f_inputs), .res (mapR h_0_1 strK (fun _ => True) (fun u y => RP.val (boolVP y) u) s_0.f_others), .res (lb p3 24 [bytesCk 32 a_1])] a w at h
          clear β
          exact ⟨!decide (((lkp a_1 s_0.f_inputs).getD []) = a_2), hF, h.sub [0, 1, 2, 3, 4, 5, 6, 7] (by rfl)⟩
        · replace hF := ff_of hb9 hF
          refine region_do (n := 36) [.slot 19 100000 100000 (fun _ _ => (boolVP ((lkp a_1 s_0.f_inputs).isSome))),
      .slot 20 100000 100000 (fun _ _ => (boolVP ((lkp a_1 s_0.f_inputs).isSome))),
      .slot 21 100000 100000 (fun _ _ => (eqVP undef)),
      .slot 22 100000 100000 (fun _ _ => (eqVP undef)),
      .slot 23 100000 100000 (fun _ _ => (eqVP undef)),
      .slot 24 100000 100000 (fun _ _ => (boolVP false))] [0, 1, 2, 3, 4, 5] [⟨[4], [], [9], [], some 19⟩, ⟨[9], [], [10], [0], some 20⟩, ⟨[10], [], [11], [0, 1], some 21⟩, ⟨[10], [], [12], [0, 1, 2], some 22⟩, ⟨[10], [], [13], [0, 1, 2, 3], some 23⟩, ⟨[10], [], [14], [0, 1, 2, 3, 4], some 24⟩] [0, 1, 2, 14, 5, 6, 7, 8] mixed hn hG h (by kernel_rfl) ?_ ?_
          · exact ⟨⟨rfl, fun β => (GOk.plain (op_move (opt 0 rfl)) rfl)⟩, ⟨rfl, fun β => (GOk.plain (op_move (opt 0 rfl)) rfl)⟩, ⟨rfl, fun β => (GOk.off_v (want := true) hb9 rfl rfl rfl rfl)⟩, ⟨rfl, fun β => (GOk.off_v (want := true) hb9 rfl rfl rfl rfl)⟩, ⟨rfl, fun β => (GOk.off_v (want := true) hb9 rfl rfl rfl rfl)⟩, ⟨rfl, fun β => (GOk.plain (op_pick_f hb9 (opt 0 rfl) (opc (bc _))) rfl)⟩, trivial⟩
          clear h
          intro β a w h
          change SatL c [.slot 0 (lpVP p_0 0), .slot 2 (strVP a_2), .slot 4 (lpVP p3 0), .slot 24 (boolVP false), .res (lb p_0 71 [one (eqVP h_0_0), one (eqVP h_0_1)]), .res (mapR h_0_0 arrK (fun l => l.length = 32) (fun u y => RP.val (strVP y) u) s_0.f_inputs), .res (mapR h_0_1 strK (fun _ => True) (fun u y => RP.val (boolVP y) u) s_0.f_others), .res (lb p3 24 [bytesCk 32 a_1])] a w at h
          clear β
          exact ⟨false, hF, h.sub [0, 1, 2, 3, 4, 5, 6, 7] (by rfl)⟩
      · clear h hF
        rintro a w ⟨x5, hF, h⟩
        unfold digest_Log_note.j1 at hF
        show Code.wp Tryd.prog _ _ a w
        refine wp_cut (fun a w => ∃ (x6 : List ((List UInt8) × (List UInt8))), ∃ (x7 : List ((List UInt8) × Bool)), digest_Log_note.j2 x6 x7 = some r ∧ SatL c [.res (lb p_0 71 [one (eqVP h_0_0), one (eqVP h_0_1)]), .res (mapR h_0_0 arrK (fun l => l.length = 32) (fun u y => RP.val (strVP y) u) x6), .res (mapR h_0_1 strK (fun _ => True) (fun u y => RP.val (boolVP y) u) x7)] a w) ?_ ?_
        · refine cond_L h 3 rfl (fun hb8 => ?_) (fun hb8 => ?_)
          · replace hF := tt_of hb8 hF
            replace h := h.sub [0, 1, 4, 5, 6] (by rfl)
            change SatL c [.slot 0 (lpVP p_0 0), .slot 2 (strVP a_2), .res (lb p_0 71 [one (eqVP h_0_0), one (eqVP h_0_1)]), .res (mapR h_0_0 arrK (fun l => l.length = 32) (fun u y => RP.val (strVP y) u) s_0.f_inputs), .res (mapR h_0_1 strK (fun _ => True) (fun u y => RP.val (boolVP y) u) s_0.f_others)] a w at h
            refine region_do (n := 36) [.slot 25 100000 100000 (fun _ _ => (lpVP p_0 0)),
      .slot 26 100000 100000 (fun _ _ => (lpVP p_0 0)),
      .slot 27 100000 100000 (fun _ _ => (lpVP p_0 1)),
      .slot 28 100000 100000 (fun _ _ => (eqVP h_0_1)),
      .slot 29 100000 100000 (fun _ _ => (strVP a_2)),
      .res 100000 100000 (fun _ _ => (mapR h_0_1 strK (fun _ => True) (fun u y => RP.val (boolVP y) u) (upd a_2 true s_0.f_others)))] [0, 1, 2, 3, 4, 5] [⟨[0], [], [5], [], some 25⟩, ⟨[5], [], [6], [0], some 26⟩, ⟨[6], [], [7], [0, 1], some 27⟩, ⟨[7, 2], [], [8], [0, 1, 2], some 28⟩, ⟨[1], [], [9], [0, 1, 2, 3], some 29⟩, ⟨[8, 9], [4], [10], [0, 1, 2, 3, 4], none⟩] [2, 3, 10] mixed hn hG h (by kernel_rfl) ?_ ?_
            · exact ⟨⟨rfl, fun β => (GOk.plain (op_move (opt 0 rfl)) rfl)⟩, ⟨rfl, fun β => (GOk.plain (op_nilCheck (opt 0 rfl) (ptr_lp _ _)) rfl)⟩, ⟨rfl, fun β => (GOk.plain (op_fieldAddr_lbm (p := p_0) (n := 1) 0 1 Tryd.underlying71 rfl Tryd.sizeOf69 (by decide) (opt 0 rfl) rfl) rfl)⟩, ⟨rfl, fun β => (GOk.plain (op_load_lb1 [one (eqVP h_0_0)] [] 1 Tryd.isAgg69 (opt 0 rfl) rfl rfl) rfl)⟩, ⟨rfl, fun β => (GOk.plain (op_move (opt 0 rfl)) rfl)⟩, ⟨rfl, fun β => (GOk.plain (op_mapUpdate Tryd.underlying69 (keyStr Tryd.underlying9) (opt 0 rfl) (opt 1 rfl) hk_str (opc (bc _))) rfl)⟩, trivial⟩
            clear h
            intro β a w h
            change SatL c [.res (lb p_0 71 [one (eqVP h_0_0), one (eqVP h_0_1)]), .res (mapR h_0_0 arrK (fun l => l.length = 32) (fun u y => RP.val (strVP y) u) s_0.f_inputs), .res (mapR h_0_1 strK (fun _ => True) (fun u y => RP.val (boolVP y) u) (upd a_2 true s_0.f_others))] a w at h
            clear β
            exact ⟨s_0.f_inputs, upd a_2 true s_0.f_others, hF, h.sub [0, 1, 2] (by rfl)⟩
          · replace hF := ff_of hb8 hF
            replace h := h.sub [0, 1, 2, 4, 5, 6, 7] (by rfl)
            change SatL c [.slot 0 (lpVP p_0 0), .slot 2 (strVP a_2), .slot 4 (lpVP p3 0), .res (lb p_0 71 [one (eqVP h_0_0), one (eqVP h_0_1)]), .res (mapR h_0_0 arrK (fun l => l.length = 32) (fun u y => RP.val (strVP y) u) s_0.f_inputs), .res (mapR h_0_1 strK (fun _ => True) (fun u y => RP.val (boolVP y) u) s_0.f_others), .res (lb p3 24 [bytesCk 32 a_1])] a w at h
            refine region_do (n := 36) [.slot 30 100000 100000 (fun _ _ => (lpVP p_0 0)),
      .slot 31 100000 100000 (fun _ _ => (lpVP p_0 0)),
      .slot 32 100000 100000 (fun _ _ => (lpVP p_0 0)),
      .slot 33 100000 100000 (fun _ _ => (eqVP h_0_0)),
      .slot 34 100000 100000 (fun _ _ => (aggVP [bytesCk 32 a_1])),
      .slot 35 100000 100000 (fun _ _ => (strVP a_2)),
      .res 100000 100000 (fun _ _ => (mapR h_0_0 arrK (fun l => l.length = 32) (fun u y => RP.val (strVP y) u) (upd a_1 a_2 s_0.f_inputs)))] [0, 1, 2, 3, 4, 5, 6] [⟨[0], [], [7], [], some 30⟩, ⟨[7], [], [8], [0], some 31⟩, ⟨[8], [], [9], [0, 1], some 32⟩, ⟨[9, 3], [], [10], [0, 1, 2], some 33⟩, ⟨[2, 6], [], [11], [], some 34⟩, ⟨[1], [], [12], [], some 35⟩, ⟨[10, 11, 12], [4], [13], [0, 1, 2, 3, 4, 5], none⟩] [3, 13, 5] mixed hn hG h (by kernel_rfl) ?_ ?_
            · exact ⟨⟨rfl, fun β => (GOk.plain (op_move (opt 0 rfl)) rfl)⟩, ⟨rfl, fun β => (GOk.plain (op_nilCheck (opt 0 rfl) (ptr_lp _ _)) rfl)⟩, ⟨rfl, fun β => (GOk.plain (op_fieldAddr_lbm (p := p_0) (n := 1) 0 0 Tryd.underlying71 rfl Tryd.sizeOf68 (by decide) (opt 0 rfl) rfl) rfl)⟩, ⟨rfl, fun β => (GOk.plain (op_load_lb1 [] [one (eqVP h_0_1)] 1 Tryd.isAgg68 (opt 0 rfl) rfl rfl) rfl)⟩, ⟨rfl, fun β => (GOk.plain (op_load_lb [] [bytesCk 32 a_1] [] 1 Tryd.isAgg24 Tryd.sizeOf24 (opt 0 rfl) rfl rfl rfl) rfl)⟩, ⟨rfl, fun β => (GOk.plain (op_move (opt 0 rfl)) rfl)⟩, ⟨rfl, fun β => (GOk.plain (op_mapUpdate Tryd.underlying68 (keyArr Tryd.underlying24 Tryd.underlying5 Tryd.type5 Tryd.sizeOf5 Tryd.isAgg5) (opt 0 rfl) (opt 1 rfl) hk_arr (opt 2 rfl)) rfl)⟩, trivial⟩
            clear h
            intro β a w h
            change SatL c [.res (lb p_0 71 [one (eqVP h_0_0), one (eqVP h_0_1)]), .res (mapR h_0_0 arrK (fun l => l.length = 32) (fun u y => RP.val (strVP y) u) (upd a_1 a_2 s_0.f_inputs)), .res (mapR h_0_1 strK (fun _ => True) (fun u y => RP.val (boolVP y) u) s_0.f_others)] a w at h
            clear β
            exact ⟨upd a_1 a_2 s_0.f_inputs, s_0.f_others, hF, h.sub [0, 1, 2] (by rfl)⟩
        · clear h hF
          rintro a w ⟨x6, x7, hF, h⟩
          unfold digest_Log_note.j2 at hF
          replace h := h.unsep 1 2 rfl rfl (by decide)
          replace h := h.unsep 0 1 rfl rfl (by decide)
          replace h := h.conv 0 rfl (R' := Log_e p_0 (some ⟨x6, x7⟩)) (Log_packo (v0 := h_0_0) (v1 := h_0_1) (o := (some ⟨x6, x7⟩)))
          replace h := h.sub [0] (by rfl)
          change SatL c [.res (Log_e p_0 (some ⟨x6, x7⟩))] a w at h
          obtain rfl := Option.some.inj hF
          exact ⟨.inr rfl, retn h (rs := []) (Vs := []) Tryd.results40 (by decide) trivial [0] [(Log_e p_0 (some ⟨x6, x7⟩))] rfl rfl rfl⟩

def digest_Log_Count.n : Option Int := some 0
def digest_Log_Count.s (s_0 : O_Log) : Option Int := (if s_0.f_inputs.length ≤ mxl then (if s_0.f_others.length ≤ mxl then some (IntKind.wrap .i64 ((s_0.f_inputs.length : Int) + (s_0.f_others.length : Int))) else none) else none)
def digest_Log_Count (L_0 : Option O_Log) : Option Int := match L_0 with | none => digest_Log_Count.n | some s_0 => digest_Log_Count.s s_0
theorem digest_Log_Count_ok {p_0 : Value} {h_0_0 : Value} {h_0_1 : Value} {L_0 : Option O_Log} {r : Int} (hF : digest_Log_Count L_0 = some r) : CallOk Tryd.prog KG 15 [(eqVP p_0)] [(Log_o p_0 h_0_0 h_0_1 L_0)] (fun _ => [(Log_o p_0 h_0_0 h_0_1 L_0)]) (intVP .i64 r) := by
  refine CallOk.intro 16 Tryd.func15 rfl Tryd.ntmps15 (Nat.le_of_ble_eq_true rfl) ?_
  intro c a w hG hn h
  unfold digest_Log_Count at hF
  change SatL c [.slot 0 (eqVP p_0), .res (Log_o p_0 h_0_0 h_0_1 L_0)] a w at h
  cases L_0 with
  | none =>
    change digest_Log_Count.n = some r at hF
    unfold digest_Log_Count.n at hF
    obtain rfl := h.isp 1 rfl (fun _ _ _ q => q.2)
    replace h := h.slotc 0 rfl (V' := ptrVP (.pointer none) false) (fun _ _ h => ⟨h, rfl⟩)
    change SatL c [.slot 0 (ptrVP (.pointer none) false), .res (Log_o (.pointer none) h_0_0 h_0_1 none)] a w at h
    refine wp_seq ?_
    refine region_do (n := 16) [.slot 2 100000 100000 (fun _ _ => (intVP .i64 0))] [0] [⟨[], [], [2], [], some 2⟩] [0, 1] mixed hn hG h (by kernel_rfl) ?_ ?_
    · exact ⟨⟨rfl, fun β => (GOk.plain (op_assign (opc (ic (by decide)))) rfl)⟩, trivial⟩
    clear h
    intro β a w h
    change SatL c [.slot 0 (ptrVP (.pointer none) false), .res (Log_o (.pointer none) h_0_0 h_0_1 none)] a w at h
    clear β
    show Code.wp Tryd.prog _ _ a w
    refine wp_seq ?_
    refine wp_seq ?_
    refine region_do (n := 16) [.slot 3 100000 100000 (fun _ _ => (ptrVP (.pointer none) false)),
      .slot 4 100000 100000 (fun _ _ => (boolVP true))] [0, 1] [⟨[0], [], [2], [], some 3⟩, ⟨[2], [], [3], [0], some 4⟩] [0, 3, 1] mixed hn hG h (by kernel_rfl) ?_ ?_
    · exact ⟨⟨rfl, fun β => (GOk.plain (op_move (opt 0 rfl)) rfl)⟩, ⟨rfl, fun β => (GOk.plain (op_bin (bin_pnil Tryd.underlying30) (opt 0 rfl) (opc (ec _))) rfl)⟩, trivial⟩
    clear h
    intro β a w h
    change SatL c [.slot 0 (ptrVP (.pointer none) false), .slot 4 (boolVP true), .res (Log_o (.pointer none) h_0_0 h_0_1 none)] a w at h
    clear β
    show Code.wp Tryd.prog _ _ a w
    refine cond_L h 1 rfl (fun hb1 => ?_) (fun hb1 => ?_)
    · skip
      replace h := h.sub [2] (by rfl)
      change SatL c [.res (Log_o (.pointer none) h_0_0 h_0_1 none)] a w at h
      refine wp_seq ?_
      refine region_do (n := 16) [.slot 2 100000 100000 (fun _ _ => (intVP .i64 0))] [0] [⟨[], [], [1], [], some 2⟩] [1, 0] mixed hn hG h (by kernel_rfl) ?_ ?_
      · exact ⟨⟨rfl, fun β => (GOk.plain (op_assign (opc (ic (by decide)))) rfl)⟩, trivial⟩
      clear h
      intro β a w h
      change SatL c [.slot 2 (intVP .i64 0), .res (Log_o (.pointer none) h_0_0 h_0_1 none)] a w at h
      clear β
      show Code.wp Tryd.prog _ _ a w
      refine wp_ret ?_
      obtain rfl := Option.some.inj hF
      exact ⟨.inl rfl, ret1 h Tryd.results15 (r_tmp 0 rfl) [1] [(Log_o (.pointer none) h_0_0 h_0_1 none)] rfl rfl rfl⟩
    · cases hb1
  | some s_0 =>
    change digest_Log_Count.s s_0 = some r at hF
    unfold digest_Log_Count.s at hF
    have hp := h.isp 1 rfl (fun Φ f w q => Log_lp Φ f w q)
    replace h := h.slotc 0 rfl (V' := lpVP p_0 0) (fun _ _ h => eq_lp h hp)
    replace h := h.sep (R := lb p_0 71 [one (eqVP h_0_0), one (eqVP h_0_1)]) (S := (RP.sep (mapR h_0_0 arrK (fun l => l.length = 32) (fun u y => RP.val (strVP y) u) s_0.f_inputs) (mapR h_0_1 strK (fun _ => True) (fun u y => RP.val (boolVP y) u) s_0.f_others))) 1 rfl
    replace h := h.sep (R := mapR h_0_0 arrK (fun l => l.length = 32) (fun u y => RP.val (strVP y) u) s_0.f_inputs) (S := (mapR h_0_1 strK (fun _ => True) (fun u y => RP.val (boolVP y) u) s_0.f_others)) 2 rfl
    replace h := h.sub [0, 1, 2, 3] (by rfl)
    change SatL c [.slot 0 (lpVP p_0 0), .res (lb p_0 71 [one (eqVP h_0_0), one (eqVP h_0_1)]), .res (mapR h_0_0 arrK (fun l => l.length = 32) (fun u y => RP.val (strVP y) u) s_0.f_inputs), .res (mapR h_0_1 strK (fun _ => True) (fun u y => RP.val (boolVP y) u) s_0.f_others)] a w at h
    refine wp_seq ?_
    refine region_do (n := 16) [.slot 2 100000 100000 (fun _ _ => (intVP .i64 0))] [0] [⟨[], [], [4], [], some 2⟩] [0, 1, 2, 3] mixed hn hG h (by kernel_rfl) ?_ ?_
    · exact ⟨⟨rfl, fun β => (GOk.plain (op_assign (opc (ic (by decide)))) rfl)⟩, trivial⟩
    clear h
    intro β a w h
    change SatL c [.slot 0 (lpVP p_0 0), .res (lb p_0 71 [one (eqVP h_0_0), one (eqVP h_0_1)]), .res (mapR h_0_0 arrK (fun l => l.length = 32) (fun u y => RP.val (strVP y) u) s_0.f_inputs), .res (mapR h_0_1 strK (fun _ => True) (fun u y => RP.val (boolVP y) u) s_0.f_others)] a w at h
    clear β
    show Code.wp Tryd.prog _ _ a w
    refine wp_seq ?_
    refine wp_seq ?_
    refine region_do (n := 16) [.slot 3 100000 100000 (fun _ _ => (lpVP p_0 0)),
      .slot 4 100000 100000 (fun _ _ => (boolVP false))] [0, 1] [⟨[0], [], [4], [], some 3⟩, ⟨[4], [], [5], [0], some 4⟩] [0, 5, 1, 2, 3] mixed hn hG h (by kernel_rfl) ?_ ?_
    · exact ⟨⟨rfl, fun β => (GOk.plain (op_move (opt 0 rfl)) rfl)⟩, ⟨rfl, fun β => (GOk.plain (op_bin (bin_pnil Tryd.underlying30) (lp_ptr (opt 0 rfl)) (opc (ec _))) rfl)⟩, trivial⟩
    clear h
    intro β a w h
    change SatL c [.slot 0 (lpVP p_0 0), .slot 4 (boolVP false), .res (lb p_0 71 [one (eqVP h_0_0), one (eqVP h_0_1)]), .res (mapR h_0_0 arrK (fun l => l.length = 32) (fun u y => RP.val (strVP y) u) s_0.f_inputs), .res (mapR h_0_1 strK (fun _ => True) (fun u y => RP.val (boolVP y) u) s_0.f_others)] a w at h
    clear β
    show Code.wp Tryd.prog _ _ a w
    refine cond_L h 1 rfl (fun hb2 => ?_) (fun hb2 => ?_)
    · cases hb2
    · skip
      replace h := h.sub [0, 2, 3, 4] (by rfl)
      change SatL c [.slot 0 (lpVP p_0 0), .res (lb p_0 71 [one (eqVP h_0_0), one (eqVP h_0_1)]), .res (mapR h_0_0 arrK (fun l => l.length = 32) (fun u y => RP.val (strVP y) u) s_0.f_inputs), .res (mapR h_0_1 strK (fun _ => True) (fun u y => RP.val (boolVP y) u) s_0.f_others)] a w at h
      refine wp_skip ?_
      show Code.wp Tryd.prog _ _ a w
      refine wp_seq ?_
      obtain ⟨hv3, hF⟩ := ite_some hF
      obtain ⟨hv4, hF⟩ := ite_some hF
      refine region_do (n := 16) [.slot 5 100000 100000 (fun _ _ => (lpVP p_0 0)),
      .slot 6 100000 100000 (fun _ _ => (lpVP p_0 0)),
      .slot 7 100000 100000 (fun _ _ => (lpVP p_0 0)),
      .slot 8 100000 100000 (fun _ _ => (eqVP h_0_0)),
      .slot 9 100000 100000 (fun _ _ => (intVP .i64 (s_0.f_inputs.length : Int))),
      .slot 10 100000 100000 (fun _ _ => (lpVP p_0 0)),
      .slot 11 100000 100000 (fun _ _ => (lpVP p_0 0)),
      .slot 12 100000 100000 (fun _ _ => (lpVP p_0 1)),
      .slot 13 100000 100000 (fun _ _ => (eqVP h_0_1)),
      .slot 14 100000 100000 (fun _ _ => (intVP .i64 (s_0.f_others.length : Int))),
      .slot 15 100000 100000 (fun _ _ => (intVP .i64 (IntKind.wrap .i64 ((s_0.f_inputs.length : Int) + (s_0.f_others.length : Int))))),
      .slot 2 100000 100000 (fun _ _ => (intVP .i64 (IntKind.wrap .i64 ((s_0.f_inputs.length : Int) + (s_0.f_others.length : Int)))))] [0, 1, 2, 3, 4, 5, 6, 7, 8, 9, 10, 11] [⟨[0], [], [4], [], some 5⟩, ⟨[4], [], [5], [0], some 6⟩, ⟨[5], [], [6], [0, 1], some 7⟩, ⟨[6, 1], [], [7], [0, 1, 2], some 8⟩, ⟨[7, 2], [], [8], [0, 1, 2, 3], some 9⟩, ⟨[0], [], [9], [], some 10⟩, ⟨[9], [], [10], [5], some 11⟩, ⟨[10], [], [11], [5, 6], some 12⟩, ⟨[11, 1], [], [12], [5, 6, 7], some 13⟩, ⟨[12, 3], [], [13], [0, 1, 2, 3, 4, 5, 6, 7, 8], some 14⟩, ⟨[8, 13], [], [14], [0, 1, 2, 3, 4, 5, 6, 7, 8, 9], some 15⟩, ⟨[14], [], [15], [0, 1, 2, 3, 4, 5, 6, 7, 8, 9, 10], some 2⟩] [15, 1, 2, 3] mixed hn hG h (by kernel_rfl) ?_ ?_
      · exact ⟨⟨rfl, fun β => (GOk.plain (op_move (opt 0 rfl)) rfl)⟩, ⟨rfl, fun β => (GOk.plain (op_nilCheck (opt 0 rfl) (ptr_lp _ _)) rfl)⟩, ⟨rfl, fun β => (GOk.plain (op_fieldAddr_lbm (p := p_0) (n := 1) 0 0 Tryd.underlying71 rfl Tryd.sizeOf68 (by decide) (opt 0 rfl) rfl) rfl)⟩, ⟨rfl, fun β => (GOk.plain (op_load_lb1 [] [one (eqVP h_0_1)] 1 Tryd.isAgg68 (opt 0 rfl) rfl rfl) rfl)⟩, ⟨rfl, fun β => (GOk.plain (op_len_map 1 Tryd.underlying68 (opt 0 rfl) rfl res_id hv3) rfl)⟩, ⟨rfl, fun β => (GOk.plain (op_move (opt 0 rfl)) rfl)⟩, ⟨rfl, fun β => (GOk.plain (op_nilCheck (opt 0 rfl) (ptr_lp _ _)) rfl)⟩, ⟨rfl, fun β => (GOk.plain (op_fieldAddr_lbm (p := p_0) (n := 1) 0 1 Tryd.underlying71 rfl Tryd.sizeOf69 (by decide) (opt 0 rfl) rfl) rfl)⟩, ⟨rfl, fun β => (GOk.plain (op_load_lb1 [one (eqVP h_0_0)] [] 1 Tryd.isAgg69 (opt 0 rfl) rfl rfl) rfl)⟩, ⟨rfl, fun β => (GOk.plain (op_len_map 1 Tryd.underlying69 (opt 0 rfl) rfl res_id hv4) rfl)⟩, ⟨rfl, fun β => (GOk.plain (op_bin bin_add (opt 0 rfl) (opt 1 rfl)) rfl)⟩, ⟨rfl, fun β => (GOk.plain (op_assign (opt 0 rfl)) rfl)⟩, trivial⟩
      clear h
      intro β a w h
      change SatL c [.slot 2 (intVP .i64 (IntKind.wrap .i64 ((s_0.f_inputs.length : Int) + (s_0.f_others.length : Int)))), .res (lb p_0 71 [one (eqVP h_0_0), one (eqVP h_0_1)]), .res (mapR h_0_0 arrK (fun l => l.length = 32) (fun u y => RP.val (strVP y) u) s_0.f_inputs), .res (mapR h_0_1 strK (fun _ => True) (fun u y => RP.val (boolVP y) u) s_0.f_others)] a w at h
      clear β
      show Code.wp Tryd.prog _ _ a w
      refine wp_ret ?_
      replace h := h.unsep 2 3 rfl rfl (by decide)
      replace h := h.unsep 1 2 rfl rfl (by decide)
      replace h := h.sub [0, 1] (by rfl)
      change SatL c [.slot 2 (intVP .i64 (IntKind.wrap .i64 ((s_0.f_inputs.length : Int) + (s_0.f_others.length : Int)))), .res (Log_o p_0 h_0_0 h_0_1 (some s_0))] a w at h
      obtain rfl := Option.some.inj hF
      exact ⟨.inl rfl, ret1 h Tryd.results15 (r_tmp 0 rfl) [1] [(Log_o p_0 h_0_0 h_0_1 (some s_0))] rfl rfl rfl⟩
theorem digest_Log_Count_oke {p_0 : Value} {L_0 : Option O_Log} {r : Int} (hF : digest_Log_Count L_0 = some r) : CallOk Tryd.prog KG 15 [(eqVP p_0)] [Log_e p_0 L_0] (fun _ => [Log_e p_0 L_0]) (intVP .i64 r) := CallOk.ex fun h_0_0 => CallOk.ex fun h_0_1 => digest_Log_Count_ok hF
theorem digest_Log_Count_oku {p_0 : Value} {h_0_0 : Value} {h_0_1 : Value} {s_0 : O_Log} {r : Int} (hF : digest_Log_Count (some s_0) = some r) : CallOk Tryd.prog KG 15 [(eqVP p_0)] [lb p_0 71 [one (eqVP h_0_0), one (eqVP h_0_1)], mapR h_0_0 arrK (fun l => l.length = 32) (fun u y => RP.val (strVP y) u) s_0.f_inputs, mapR h_0_1 strK (fun _ => True) (fun u y => RP.val (boolVP y) u) s_0.f_others] (fun _ => [lb p_0 71 [one (eqVP h_0_0), one (eqVP h_0_1)], mapR h_0_0 arrK (fun l => l.length = 32) (fun u y => RP.val (strVP y) u) s_0.f_inputs, mapR h_0_1 strK (fun _ => True) (fun u y => RP.val (boolVP y) u) s_0.f_others]) (intVP .i64 r) := CallOk.split2 (digest_Log_Count_ok hF)

def digest_Log_Clash.n : Option Bool := some false
def digest_Log_Clash.s (s_0 : O_Log) : Option Bool := (if s_0.f_others.length ≤ mxl then some (decide ((0 : Int) < (s_0.f_others.length : Int))) else none)
def digest_Log_Clash (L_0 : Option O_Log) : Option Bool := match L_0 with | none => digest_Log_Clash.n | some s_0 => digest_Log_Clash.s s_0
theorem digest_Log_Clash_ok {p_0 : Value} {h_0_0 : Value} {h_0_1 : Value} {L_0 : Option O_Log} {r : Bool} (hF : digest_Log_Clash L_0 = some r) : CallOk Tryd.prog KG 16 [(eqVP p_0)] [(Log_o p_0 h_0_0 h_0_1 L_0)] (fun _ => [(Log_o p_0 h_0_0 h_0_1 L_0)]) (boolVP r) := by
  refine CallOk.intro 13 Tryd.func16 rfl Tryd.ntmps16 (Nat.le_of_ble_eq_true rfl) ?_
  intro c a w hG hn h
  unfold digest_Log_Clash at hF
  change SatL c [.slot 0 (eqVP p_0), .res (Log_o p_0 h_0_0 h_0_1 L_0)] a w at h
  cases L_0 with
  | none =>
    change digest_Log_Clash.n = some r at hF
    unfold digest_Log_Clash.n at hF
    obtain rfl := h.isp 1 rfl (fun _ _ _ q => q.2)
    replace h := h.slotc 0 rfl (V' := ptrVP (.pointer none) false) (fun _ _ h => ⟨h, rfl⟩)
    change SatL c [.slot 0 (ptrVP (.pointer none) false), .res (Log_o (.pointer none) h_0_0 h_0_1 none)] a w at h
    refine wp_seq ?_
    refine region_do (n := 13) [.slot 2 100000 100000 (fun _ _ => (boolVP false))] [0] [⟨[], [], [2], [], some 2⟩] [0, 1] mixed hn hG h (by kernel_rfl) ?_ ?_
    · exact ⟨⟨rfl, fun β => (GOk.plain (op_assign (opc (bc _))) rfl)⟩, trivial⟩
    clear h
    intro β a w h
    change SatL c [.slot 0 (ptrVP (.pointer none) false), .res (Log_o (.pointer none) h_0_0 h_0_1 none)] a w at h
    clear β
    show Code.wp Tryd.prog _ _ a w
    refine wp_seq ?_
    refine region_do (n := 13) [.slot 3 100000 100000 (fun _ _ => (ptrVP (.pointer none) false)),
      .slot 4 100000 100000 (fun _ _ => (boolVP false)),
      .slot 5 100000 100000 (fun _ _ => (boolVP false)),
      .slot 6 100000 100000 (fun _ _ => (eqVP undef)),
      .slot 7 100000 100000 (fun _ _ => (eqVP undef)),
      .slot 8 100000 100000 (fun _ _ => (eqVP undef)),
      .slot 9 100000 100000 (fun _ _ => (eqVP undef)),
      .slot 10 100000 100000 (fun _ _ => (eqVP undef)),
      .slot 11 100000 100000 (fun _ _ => (eqVP undef)),
      .slot 12 100000 100000 (fun _ _ => (boolVP false)),
      .slot 2 100000 100000 (fun _ _ => (boolVP false))] [0, 1, 2, 3, 4, 5, 6, 7, 8, 9, 10] [⟨[0], [], [2], [], some 3⟩, ⟨[2], [], [3], [0], some 4⟩, ⟨[3], [], [4], [0, 1], some 5⟩, ⟨[4], [], [5], [0, 1, 2], some 6⟩, ⟨[4], [], [6], [0, 1, 2, 3], some 7⟩, ⟨[4], [], [7], [0, 1, 2, 3, 4], some 8⟩, ⟨[4], [], [8], [0, 1, 2, 3, 4, 5], some 9⟩, ⟨[4], [], [9], [0, 1, 2, 3, 4, 5, 6], some 10⟩, ⟨[4], [], [10], [0, 1, 2, 3, 4, 5, 6, 7], some 11⟩, ⟨[4], [], [11], [0, 1, 2, 3, 4, 5, 6, 7, 8], some 12⟩, ⟨[11], [], [12], [0, 1, 2, 3, 4, 5, 6, 7, 8, 9], some 2⟩] [12, 1] mixed hn hG h (by kernel_rfl) ?_ ?_
    · exact ⟨⟨rfl, fun β => (GOk.plain (op_move (opt 0 rfl)) rfl)⟩, ⟨rfl, fun β => (GOk.plain (op_bin (bin_pnn Tryd.underlying30) (opt 0 rfl) (opc (ec _))) rfl)⟩, ⟨rfl, fun β => (GOk.plain (op_move (opt 0 rfl)) rfl)⟩, ⟨rfl, fun β => (GOk.off_v (want := true) rfl rfl rfl rfl rfl)⟩, ⟨rfl, fun β => (GOk.off_v (want := true) rfl rfl rfl rfl rfl)⟩, ⟨rfl, fun β => (GOk.off_v (want := true) rfl rfl rfl rfl rfl)⟩, ⟨rfl, fun β => (GOk.off_v (want := true) rfl rfl rfl rfl rfl)⟩, ⟨rfl, fun β => (GOk.off_v (want := true) rfl rfl rfl rfl rfl)⟩, ⟨rfl, fun β => (GOk.off_v (want := true) rfl rfl rfl rfl rfl)⟩, ⟨rfl, fun β => (GOk.plain (op_pick_f rfl (opt 0 rfl) (opc (bc _))) rfl)⟩, ⟨rfl, fun β => (GOk.plain (op_assign (opt 0 rfl)) rfl)⟩, trivial⟩
    clear h
    intro β a w h
    change SatL c [.slot 2 (boolVP false), .res (Log_o (.pointer none) h_0_0 h_0_1 none)] a w at h
    clear β
    show Code.wp Tryd.prog _ _ a w
    refine wp_ret ?_
    obtain rfl := Option.some.inj hF
    exact ⟨.inl rfl, ret1 h Tryd.results16 (r_tmp 0 rfl) [1] [(Log_o (.pointer none) h_0_0 h_0_1 none)] rfl rfl rfl⟩
  | some s_0 =>
    change digest_Log_Clash.s s_0 = some r at hF
    unfold digest_Log_Clash.s at hF
    have hp := h.isp 1 rfl (fun Φ f w q => Log_lp Φ f w q)
    replace h := h.slotc 0 rfl (V' := lpVP p_0 0) (fun _ _ h => eq_lp h hp)
    replace h := h.sep (R := lb p_0 71 [one (eqVP h_0_0), one (eqVP h_0_1)]) (S := (RP.sep (mapR h_0_0 arrK (fun l => l.length = 32) (fun u y => RP.val (strVP y) u) s_0.f_inputs) (mapR h_0_1 strK (fun _ => True) (fun u y => RP.val (boolVP y) u) s_0.f_others))) 1 rfl
    replace h := h.sep (R := mapR h_0_0 arrK (fun l => l.length = 32) (fun u y => RP.val (strVP y) u) s_0.f_inputs) (S := (mapR h_0_1 strK (fun _ => True) (fun u y => RP.val (boolVP y) u) s_0.f_others)) 2 rfl
    replace h := h.sub [0, 1, 2, 3] (by rfl)
    change SatL c [.slot 0 (lpVP p_0 0), .res (lb p_0 71 [one (eqVP h_0_0), one (eqVP h_0_1)]), .res (mapR h_0_0 arrK (fun l => l.length = 32) (fun u y => RP.val (strVP y) u) s_0.f_inputs), .res (mapR h_0_1 strK (fun _ => True) (fun u y => RP.val (boolVP y) u) s_0.f_others)] a w at h
    refine wp_seq ?_
    refine region_do (n := 13) [.slot 2 100000 100000 (fun _ _ => (boolVP false))] [0] [⟨[], [], [4], [], some 2⟩] [0, 1, 2, 3] mixed hn hG h (by kernel_rfl) ?_ ?_
    · exact ⟨⟨rfl, fun β => (GOk.plain (op_assign (opc (bc _))) rfl)⟩, trivial⟩
    clear h
    intro β a w h
    change SatL c [.slot 0 (lpVP p_0 0), .res (lb p_0 71 [one (eqVP h_0_0), one (eqVP h_0_1)]), .res (mapR h_0_0 arrK (fun l => l.length = 32) (fun u y => RP.val (strVP y) u) s_0.f_inputs), .res (mapR h_0_1 strK (fun _ => True) (fun u y => RP.val (boolVP y) u) s_0.f_others)] a w at h
    clear β
    show Code.wp Tryd.prog _ _ a w
    refine wp_seq ?_
    obtain ⟨hv1, hF⟩ := ite_some hF
    refine region_do (n := 13) [.slot 3 100000 100000 (fun _ _ => (lpVP p_0 0)),
      .slot 4 100000 100000 (fun _ _ => (boolVP true)),
      .slot 5 100000 100000 (fun _ _ => (boolVP true)),
      .slot 6 100000 100000 (fun _ _ => (lpVP p_0 0)),
      .slot 7 100000 100000 (fun _ _ => (lpVP p_0 0)),
      .slot 8 100000 100000 (fun _ _ => (lpVP p_0 1)),
      .slot 9 100000 100000 (fun _ _ => (eqVP h_0_1)),
      .slot 10 100000 100000 (fun _ _ => (intVP .i64 (s_0.f_others.length : Int))),
      .slot 11 100000 100000 (fun _ _ => (boolVP (decide ((0 : Int) < (s_0.f_others.length : Int))))),
      .slot 12 100000 100000 (fun _ _ => (boolVP (decide ((0 : Int) < (s_0.f_others.length : Int))))),
      .slot 2 100000 100000 (fun _ _ => (boolVP (decide ((0 : Int) < (s_0.f_others.length : Int)))))] [0, 1, 2, 3, 4, 5, 6, 7, 8, 9, 10] [⟨[0], [], [4], [], some 3⟩, ⟨[4], [], [5], [0], some 4⟩, ⟨[5], [], [6], [0, 1], some 5⟩, ⟨[6, 0], [], [7], [0, 1, 2], some 6⟩, ⟨[6, 7], [], [8], [0, 1, 2, 3], some 7⟩, ⟨[6, 8], [], [9], [0, 1, 2, 3, 4], some 8⟩, ⟨[6, 9, 1], [], [10], [0, 1, 2, 3, 4, 5], some 9⟩, ⟨[6, 10, 3], [], [11], [0, 1, 2, 3, 4, 5, 6], some 10⟩, ⟨[6, 11], [], [12], [0, 1, 2, 3, 4, 5, 6, 7], some 11⟩, ⟨[6, 12], [], [13], [0, 1, 2, 3, 4, 5, 6, 7, 8], some 12⟩, ⟨[13], [], [14], [0, 1, 2, 3, 4, 5, 6, 7, 8, 9], some 2⟩] [14, 1, 2, 3] mixed hn hG h (by kernel_rfl) ?_ ?_
    · exact ⟨⟨rfl, fun β => (GOk.plain (op_move (opt 0 rfl)) rfl)⟩, ⟨rfl, fun β => (GOk.plain (op_bin (bin_pnn Tryd.underlying30) (lp_ptr (opt 0 rfl)) (opc (ec _))) rfl)⟩, ⟨rfl, fun β => (GOk.plain (op_move (opt 0 rfl)) rfl)⟩, ⟨rfl, fun β => (GOk.on_eq rfl rfl rfl rfl (op_move (opt 0 rfl)))⟩, ⟨rfl, fun β => (GOk.on_eq rfl rfl rfl rfl (op_nilCheck (opt 0 rfl) (ptr_lp _ _)))⟩, ⟨rfl, fun β => (GOk.on_eq rfl rfl rfl rfl (op_fieldAddr_lbm (p := p_0) (n := 1) 0 1 Tryd.underlying71 rfl Tryd.sizeOf69 (by decide) (opt 0 rfl) rfl))⟩, ⟨rfl, fun β => (GOk.on_eq rfl rfl rfl rfl (op_load_lb1 [one (eqVP h_0_0)] [] 1 Tryd.isAgg69 (opt 0 rfl) rfl rfl))⟩, ⟨rfl, fun β => (GOk.on_eq rfl rfl rfl rfl (op_len_map 1 Tryd.underlying69 (opt 0 rfl) rfl res_id hv1))⟩, ⟨rfl, fun β => (GOk.on_eq rfl rfl rfl rfl (op_bin bin_gtr (opt 0 rfl) (opc (ic (by decide)))))⟩, ⟨rfl, fun β => (GOk.plain (op_pick_t rfl (opt 0 rfl) (opt 1 rfl)) rfl)⟩, ⟨rfl, fun β => (GOk.plain (op_assign (opt 0 rfl)) rfl)⟩, trivial⟩
    clear h
    intro β a w h
    change SatL c [.slot 2 (boolVP (decide ((0 : Int) < (s_0.f_others.length : Int)))), .res (lb p_0 71 [one (eqVP h_0_0), one (eqVP h_0_1)]), .res (mapR h_0_0 arrK (fun l => l.length = 32) (fun u y => RP.val (strVP y) u) s_0.f_inputs), .res (mapR h_0_1 strK (fun _ => True) (fun u y => RP.val (boolVP y) u) s_0.f_others)] a w at h
    clear β
    show Code.wp Tryd.prog _ _ a w
    refine wp_ret ?_
    replace h := h.unsep 2 3 rfl rfl (by decide)
    replace h := h.unsep 1 2 rfl rfl (by decide)
    replace h := h.sub [0, 1] (by rfl)
    change SatL c [.slot 2 (boolVP (decide ((0 : Int) < (s_0.f_others.length : Int)))), .res (Log_o p_0 h_0_0 h_0_1 (some s_0))] a w at h
    obtain rfl := Option.some.inj hF
    exact ⟨.inl rfl, ret1 h Tryd.results16 (r_tmp 0 rfl) [1] [(Log_o p_0 h_0_0 h_0_1 (some s_0))] rfl rfl rfl⟩
theorem digest_Log_Clash_oke {p_0 : Value} {L_0 : Option O_Log} {r : Bool} (hF : digest_Log_Clash L_0 = some r) : CallOk Tryd.prog KG 16 [(eqVP p_0)] [Log_e p_0 L_0] (fun _ => [Log_e p_0 L_0]) (boolVP r) := CallOk.ex fun h_0_0 => CallOk.ex fun h_0_1 => digest_Log_Clash_ok hF
theorem digest_Log_Clash_oku {p_0 : Value} {h_0_0 : Value} {h_0_1 : Value} {s_0 : O_Log} {r : Bool} (hF : digest_Log_Clash (some s_0) = some r) : CallOk Tryd.prog KG 16 [(eqVP p_0)] [lb p_0 71 [one (eqVP h_0_0), one (eqVP h_0_1)], mapR h_0_0 arrK (fun l => l.length = 32) (fun u y => RP.val (strVP y) u) s_0.f_inputs, mapR h_0_1 strK (fun _ => True) (fun u y => RP.val (boolVP y) u) s_0.f_others] (fun _ => [lb p_0 71 [one (eqVP h_0_0), one (eqVP h_0_1)], mapR h_0_0 arrK (fun l => l.length = 32) (fun u y => RP.val (strVP y) u) s_0.f_inputs, mapR h_0_1 strK (fun _ => True) (fun u y => RP.val (boolVP y) u) s_0.f_others]) (boolVP r) := CallOk.split2 (digest_Log_Clash_ok hF)

def digest_Log_Has.n (a_1 : List UInt8) : Option Bool := some false
def digest_Log_Has.s (s_0 : O_Log) (a_1 : List UInt8) : Option Bool := some ((lkp a_1 s_0.f_inputs).isSome)
def digest_Log_Has (L_0 : Option O_Log) (a_1 : List UInt8) : Option Bool := match L_0 with | none => digest_Log_Has.n a_1 | some s_0 => digest_Log_Has.s s_0 a_1
theorem digest_Log_Has_ok {p_0 : Value} {h_0_0 : Value} {h_0_1 : Value} {L_0 : Option O_Log} {a_1 : List UInt8} {r : Bool} (hF : digest_Log_Has L_0 a_1 = some r) : CallOk Tryd.prog KG 22 [(eqVP p_0), (aggVP [bytesCk 32 a_1])] [(Log_o p_0 h_0_0 h_0_1 L_0)] (fun _ => [(Log_o p_0 h_0_0 h_0_1 L_0)]) (boolVP r) := by
  refine CallOk.intro 19 Tryd.func22 rfl Tryd.ntmps22 (Nat.le_of_ble_eq_true rfl) ?_
  intro c a w hG hn h
  unfold digest_Log_Has at hF
  change SatL c [.slot 0 (eqVP p_0), .slot 1 (aggVP [bytesCk 32 a_1]), .res (Log_o p_0 h_0_0 h_0_1 L_0)] a w at h
  cases L_0 with
  | none =>
    change digest_Log_Has.n a_1 = some r at hF
    unfold digest_Log_Has.n at hF
    obtain rfl := h.isp 2 rfl (fun _ _ _ q => q.2)
    replace h := h.slotc 0 rfl (V' := ptrVP (.pointer none) false) (fun _ _ h => ⟨h, rfl⟩)
    change SatL c [.slot 0 (ptrVP (.pointer none) false), .slot 1 (aggVP [bytesCk 32 a_1]), .res (Log_o (.pointer none) h_0_0 h_0_1 none)] a w at h
    refine wp_seq ?_
    refine region_do (n := 19) [.slot 3 0 100000 (fun v1_ _ => (lpVP v1_ 0)),
      .res 0 100000 (fun v1_ _ => (lb (v1_) 24 [bytesCk 32 a_1])),
      .slot 4 100000 100000 (fun _ _ => (boolVP false))] [0, 0, 1] [⟨[1], [], [3, 4], [], some 3⟩, ⟨[], [], [5], [0], some 4⟩] [0, 3, 2, 4] mixed hn hG h (by kernel_rfl) ?_ ?_
    · exact ⟨⟨rfl, fun β => (GOk.plain (op_box (opt 0 rfl) (cells_agg _)) rfl)⟩, ⟨rfl, fun β => (GOk.plain (op_assign (opc (bc _))) rfl)⟩, trivial⟩
    clear h
    intro β a w h
    change SatL c [.slot 0 (ptrVP (.pointer none) false), .slot 3 (lpVP (β 0) 0), .res (Log_o (.pointer none) h_0_0 h_0_1 none), .res (lb (β 0) 24 [bytesCk 32 a_1])] a w at h
    generalize β 0 = p1 at h
    clear β
    show Code.wp Tryd.prog _ _ a w
    refine wp_seq ?_
    refine wp_seq ?_
    refine region_do (n := 19) [.slot 7 100000 100000 (fun _ _ => (ptrVP (.pointer none) false)),
      .slot 8 100000 100000 (fun _ _ => (boolVP true))] [0, 1] [⟨[0], [], [4], [], some 7⟩, ⟨[4], [], [5], [0], some 8⟩] [0, 1, 5, 2, 3] mixed hn hG h (by kernel_rfl) ?_ ?_
    · exact ⟨⟨rfl, fun β => (GOk.plain (op_move (opt 0 rfl)) rfl)⟩, ⟨rfl, fun β => (GOk.plain (op_bin (bin_pnil Tryd.underlying30) (opt 0 rfl) (opc (ec _))) rfl)⟩, trivial⟩
    clear h
    intro β a w h
    change SatL c [.slot 0 (ptrVP (.pointer none) false), .slot 3 (lpVP p1 0), .slot 8 (boolVP true), .res (Log_o (.pointer none) h_0_0 h_0_1 none), .res (lb p1 24 [bytesCk 32 a_1])] a w at h
    clear β
    show Code.wp Tryd.prog _ _ a w
    refine cond_L h 2 rfl (fun hb2 => ?_) (fun hb2 => ?_)
    · skip
      replace h := h.sub [3] (by rfl)
      change SatL c [.res (Log_o (.pointer none) h_0_0 h_0_1 none)] a w at h
      refine wp_seq ?_
      refine region_do (n := 19) [.slot 4 100000 100000 (fun _ _ => (boolVP false))] [0] [⟨[], [], [1], [], some 4⟩] [1, 0] mixed hn hG h (by kernel_rfl) ?_ ?_
      · exact ⟨⟨rfl, fun β => (GOk.plain (op_assign (opc (bc _))) rfl)⟩, trivial⟩
      clear h
      intro β a w h
      change SatL c [.slot 4 (boolVP false), .res (Log_o (.pointer none) h_0_0 h_0_1 none)] a w at h
      clear β
      show Code.wp Tryd.prog _ _ a w
      refine wp_ret ?_
      obtain rfl := Option.some.inj hF
      exact ⟨.inl rfl, ret1 h Tryd.results22 (r_tmp 0 rfl) [1] [(Log_o (.pointer none) h_0_0 h_0_1 none)] rfl rfl rfl⟩
    · cases hb2
  | some s_0 =>
    change digest_Log_Has.s s_0 a_1 = some r at hF
    unfold digest_Log_Has.s at hF
    have hp := h.isp 2 rfl (fun Φ f w q => Log_lp Φ f w q)
    replace h := h.slotc 0 rfl (V' := lpVP p_0 0) (fun _ _ h => eq_lp h hp)
    replace h := h.sep (R := lb p_0 71 [one (eqVP h_0_0), one (eqVP h_0_1)]) (S := (RP.sep (mapR h_0_0 arrK (fun l => l.length = 32) (fun u y => RP.val (strVP y) u) s_0.f_inputs) (mapR h_0_1 strK (fun _ => True) (fun u y => RP.val (boolVP y) u) s_0.f_others))) 2 rfl
    replace h := h.sep (R := mapR h_0_0 arrK (fun l => l.length = 32) (fun u y => RP.val (strVP y) u) s_0.f_inputs) (S := (mapR h_0_1 strK (fun _ => True) (fun u y => RP.val (boolVP y) u) s_0.f_others)) 3 rfl
    replace h := h.sub [0, 1, 2, 3, 4] (by rfl)
    change SatL c [.slot 0 (lpVP p_0 0), .slot 1 (aggVP [bytesCk 32 a_1]), .res (lb p_0 71 [one (eqVP h_0_0), one (eqVP h_0_1)]), .res (mapR h_0_0 arrK (fun l => l.length = 32) (fun u y => RP.val (strVP y) u) s_0.f_inputs), .res (mapR h_0_1 strK (fun _ => True) (fun u y => RP.val (boolVP y) u) s_0.f_others)] a w at h
    refine wp_seq ?_
    refine region_do (n := 19) [.slot 3 0 100000 (fun v1_ _ => (lpVP v1_ 0)),
      .res 0 100000 (fun v1_ _ => (lb (v1_) 24 [bytesCk 32 a_1])),
      .slot 4 100000 100000 (fun _ _ => (boolVP false))] [0, 0, 1] [⟨[1], [], [5, 6], [], some 3⟩, ⟨[], [], [7], [0], some 4⟩] [0, 5, 2, 3, 4, 6] mixed hn hG h (by kernel_rfl) ?_ ?_
    · exact ⟨⟨rfl, fun β => (GOk.plain (op_box (opt 0 rfl) (cells_agg _)) rfl)⟩, ⟨rfl, fun β => (GOk.plain (op_assign (opc (bc _))) rfl)⟩, trivial⟩
    clear h
    intro β a w h
    change SatL c [.slot 0 (lpVP p_0 0), .slot 3 (lpVP (β 0) 0), .res (lb p_0 71 [one (eqVP h_0_0), one (eqVP h_0_1)]), .res (mapR h_0_0 arrK (fun l => l.length = 32) (fun u y => RP.val (strVP y) u) s_0.f_inputs), .res (mapR h_0_1 strK (fun _ => True) (fun u y => RP.val (boolVP y) u) s_0.f_others), .res (lb (β 0) 24 [bytesCk 32 a_1])] a w at h
    generalize β 0 = p3 at h
    clear β
    show Code.wp Tryd.prog _ _ a w
    refine wp_seq ?_
    refine wp_seq ?_
    refine region_do (n := 19) [.slot 7 100000 100000 (fun _ _ => (lpVP p_0 0)),
      .slot 8 100000 100000 (fun _ _ => (boolVP false))] [0, 1] [⟨[0], [], [6], [], some 7⟩, ⟨[6], [], [7], [0], some 8⟩] [0, 1, 7, 2, 3, 4, 5] mixed hn hG h (by kernel_rfl) ?_ ?_
    · exact ⟨⟨rfl, fun β => (GOk.plain (op_move (opt 0 rfl)) rfl)⟩, ⟨rfl, fun β => (GOk.plain (op_bin (bin_pnil Tryd.underlying30) (lp_ptr (opt 0 rfl)) (opc (ec _))) rfl)⟩, trivial⟩
    clear h
    intro β a w h
    change SatL c [.slot 0 (lpVP p_0 0), .slot 3 (lpVP p3 0), .slot 8 (boolVP false), .res (lb p_0 71 [one (eqVP h_0_0), one (eqVP h_0_1)]), .res (mapR h_0_0 arrK (fun l => l.length = 32) (fun u y => RP.val (strVP y) u) s_0.f_inputs), .res (mapR h_0_1 strK (fun _ => True) (fun u y => RP.val (boolVP y) u) s_0.f_others), .res (lb p3 24 [bytesCk 32 a_1])] a w at h
    clear β
    show Code.wp Tryd.prog _ _ a w
    refine cond_L h 2 rfl (fun hb4 => ?_) (fun hb4 => ?_)
    · cases hb4
    · skip
      replace h := h.sub [0, 1, 3, 4, 5, 6] (by rfl)
      change SatL c [.slot 0 (lpVP p_0 0), .slot 3 (lpVP p3 0), .res (lb p_0 71 [one (eqVP h_0_0), one (eqVP h_0_1)]), .res (mapR h_0_0 arrK (fun l => l.length = 32) (fun u y => RP.val (strVP y) u) s_0.f_inputs), .res (mapR h_0_1 strK (fun _ => True) (fun u y => RP.val (boolVP y) u) s_0.f_others), .res (lb p3 24 [bytesCk 32 a_1])] a w at h
      refine wp_skip ?_
      show Code.wp Tryd.prog _ _ a w
      refine wp_seq ?_
      refine region_do (n := 19) [.slot 10 100000 100000 (fun _ _ => (lpVP p_0 0)),
      .slot 11 100000 100000 (fun _ _ => (lpVP p_0 0)),
      .slot 12 100000 100000 (fun _ _ => (lpVP p_0 0)),
      .slot 13 100000 100000 (fun _ _ => (eqVP h_0_0)),
      .slot 14 100000 100000 (fun _ _ => (aggVP [bytesCk 32 a_1])),
      .slot 15 100000 100000 (fun _ _ => (tupVP [(strVP ((lkp a_1 s_0.f_inputs).getD [])), (boolVP ((lkp a_1 s_0.f_inputs).isSome))])),
      .slot 9 100000 100000 (fun _ _ => (tupVP [(strVP ((lkp a_1 s_0.f_inputs).getD [])), (boolVP ((lkp a_1 s_0.f_inputs).isSome))])),
      .slot 16 100000 100000 (fun _ _ => (strVP ((lkp a_1 s_0.f_inputs).getD []))),
      .slot 17 100000 100000 (fun _ _ => (boolVP ((lkp a_1 s_0.f_inputs).isSome))),
      .slot 5 100000 100000 (fun _ _ => (strVP ((lkp a_1 s_0.f_inputs).getD []))),
      .slot 6 100000 100000 (fun _ _ => (boolVP ((lkp a_1 s_0.f_inputs).isSome)))] [0, 1, 2, 3, 4, 5, 6, 7, 8, 9, 10] [⟨[0], [], [6], [], some 10⟩, ⟨[6], [], [7], [0], some 11⟩, ⟨[7], [], [8], [0, 1], some 12⟩, ⟨[8, 2], [], [9], [0, 1, 2], some 13⟩, ⟨[1, 5], [], [10], [], some 14⟩, ⟨[9, 10, 3], [], [11], [0, 1, 2, 3, 4], some 15⟩, ⟨[11], [], [12], [0, 1, 2, 3, 4, 5], some 9⟩, ⟨[12], [], [13], [0, 1, 2, 3, 4, 5, 6], some 16⟩, ⟨[12], [], [14], [0, 1, 2, 3, 4, 5, 6], some 17⟩, ⟨[13], [], [15], [0, 1, 2, 3, 4, 5, 6, 7], some 5⟩, ⟨[14], [], [16], [0, 1, 2, 3, 4, 5, 6, 7, 8, 9], some 6⟩] [16, 2, 3, 4] mixed hn hG h (by kernel_rfl) ?_ ?_
      · exact ⟨⟨rfl, fun β => (GOk.plain (op_move (opt 0 rfl)) rfl)⟩, ⟨rfl, fun β => (GOk.plain (op_nilCheck (opt 0 rfl) (ptr_lp _ _)) rfl)⟩, ⟨rfl, fun β => (GOk.plain (op_fieldAddr_lbm (p := p_0) (n := 1) 0 0 Tryd.underlying71 rfl Tryd.sizeOf68 (by decide) (opt 0 rfl) rfl) rfl)⟩, ⟨rfl, fun β => (GOk.plain (op_load_lb1 [] [one (eqVP h_0_1)] 1 Tryd.isAgg68 (opt 0 rfl) rfl rfl) rfl)⟩, ⟨rfl, fun β => (GOk.plain (op_load_lb [] [bytesCk 32 a_1] [] 1 Tryd.isAgg24 Tryd.sizeOf24 (opt 0 rfl) rfl rfl rfl) rfl)⟩, ⟨rfl, fun β => (GOk.plain (op_lookup strVP [] 2 Tryd.underlying68 (keyArr Tryd.underlying24 Tryd.underlying5 Tryd.type5 Tryd.sizeOf5 Tryd.isAgg5) Tryd.zeroValue9 (opt 0 rfl) (opt 1 rfl) hk_arr rfl res_id (fun _ _ _ _ _ h => h.2) (fun _ => ⟨rfl, by decide⟩)) rfl)⟩, ⟨rfl, fun β => (GOk.plain (op_move (opt 0 rfl)) rfl)⟩, ⟨rfl, fun β => (GOk.plain (op_extract (opt 0 rfl) rfl) rfl)⟩, ⟨rfl, fun β => (GOk.plain (op_extract (opt 0 rfl) rfl) rfl)⟩, ⟨rfl, fun β => (GOk.plain (op_assign (opt 0 rfl)) rfl)⟩, ⟨rfl, fun β => (GOk.plain (op_assign (opt 0 rfl)) rfl)⟩, trivial⟩
      clear h
      intro β a w h
      change SatL c [.slot 6 (boolVP ((lkp a_1 s_0.f_inputs).isSome)), .res (lb p_0 71 [one (eqVP h_0_0), one (eqVP h_0_1)]), .res (mapR h_0_0 arrK (fun l => l.length = 32) (fun u y => RP.val (strVP y) u) s_0.f_inputs), .res (mapR h_0_1 strK (fun _ => True) (fun u y => RP.val (boolVP y) u) s_0.f_others)] a w at h
      clear β
      show Code.wp Tryd.prog _ _ a w
      refine wp_seq ?_
      refine region_do (n := 19) [.slot 18 100000 100000 (fun _ _ => (boolVP ((lkp a_1 s_0.f_inputs).isSome))),
      .slot 4 100000 100000 (fun _ _ => (boolVP ((lkp a_1 s_0.f_inputs).isSome)))] [0, 1] [⟨[0], [], [4], [], some 18⟩, ⟨[4], [], [5], [0], some 4⟩] [5, 1, 2, 3] mixed hn hG h (by kernel_rfl) ?_ ?_
      · exact ⟨⟨rfl, fun β => (GOk.plain (op_move (opt 0 rfl)) rfl)⟩, ⟨rfl, fun β => (GOk.plain (op_assign (opt 0 rfl)) rfl)⟩, trivial⟩
      clear h
      intro β a w h
      change SatL c [.slot 4 (boolVP ((lkp a_1 s_0.f_inputs).isSome)), .res (lb p_0 71 [one (eqVP h_0_0), one (eqVP h_0_1)]), .res (mapR h_0_0 arrK (fun l => l.length = 32) (fun u y => RP.val (strVP y) u) s_0.f_inputs), .res (mapR h_0_1 strK (fun _ => True) (fun u y => RP.val (boolVP y) u) s_0.f_others)] a w at h
      clear β
      show Code.wp Tryd.prog _ _ a w
      refine wp_ret ?_
      replace h := h.unsep 2 3 rfl rfl (by decide)
      replace h := h.unsep 1 2 rfl rfl (by decide)
      replace h := h.sub [0, 1] (by rfl)
      change SatL c [.slot 4 (boolVP ((lkp a_1 s_0.f_inputs).isSome)), .res (Log_o p_0 h_0_0 h_0_1 (some s_0))] a w at h
      obtain rfl := Option.some.inj hF
      exact ⟨.inl rfl, ret1 h Tryd.results22 (r_tmp 0 rfl) [1] [(Log_o p_0 h_0_0 h_0_1 (some s_0))] rfl rfl rfl⟩
theorem digest_Log_Has_oke {p_0 : Value} {L_0 : Option O_Log} {a_1 : List UInt8} {r : Bool} (hF : digest_Log_Has L_0 a_1 = some r) : CallOk Tryd.prog KG 22 [(eqVP p_0), (aggVP [bytesCk 32 a_1])] [Log_e p_0 L_0] (fun _ => [Log_e p_0 L_0]) (boolVP r) := CallOk.ex fun h_0_0 => CallOk.ex fun h_0_1 => digest_Log_Has_ok hF
theorem digest_Log_Has_oku {p_0 : Value} {h_0_0 : Value} {h_0_1 : Value} {a_1 : List UInt8} {s_0 : O_Log} {r : Bool} (hF : digest_Log_Has (some s_0) a_1 = some r) : CallOk Tryd.prog KG 22 [(eqVP p_0), (aggVP [bytesCk 32 a_1])] [lb p_0 71 [one (eqVP h_0_0), one (eqVP h_0_1)], mapR h_0_0 arrK (fun l => l.length = 32) (fun u y => RP.val (strVP y) u) s_0.f_inputs, mapR h_0_1 strK (fun _ => True) (fun u y => RP.val (boolVP y) u) s_0.f_others] (fun _ => [lb p_0 71 [one (eqVP h_0_0), one (eqVP h_0_1)], mapR h_0_0 arrK (fun l => l.length = 32) (fun u y => RP.val (strVP y) u) s_0.f_inputs, mapR h_0_1 strK (fun _ => True) (fun u y => RP.val (boolVP y) u) s_0.f_others]) (boolVP r) := CallOk.split2 (digest_Log_Has_ok hF)

def digest_Log_Of (L_0 : Option O_Log) (a_1 : Int) (a_2 : List (List UInt8)) : Option ((List UInt8) × (Option O_Log)) := ((digest_input a_1 a_2).bind fun r2 => ((sha_Sum [r2]).bind fun r3 => ((digest_Log_note L_0 r3 r2).bind fun r5 => some (r3, r5))))
theorem digest_Log_Of_ok {p_0 : Value} {L_0 : Option O_Log} {a_1 : Int} {a_2 : List (List UInt8)} {r : (List UInt8) × (Option O_Log)} (hF : digest_Log_Of L_0 a_1 a_2 = some r) : CallOk Tryd.prog KG 14 [(eqVP p_0), (intVP .u8 a_1), (slVP strC a_2)] [(Log_e p_0 L_0)] (fun _ => [Log_e p_0 r.2]) (aggVP [bytesCk 32 r.1]) := by
  refine CallOk.intro 20 Tryd.func14 rfl Tryd.ntmps14 (Nat.le_of_ble_eq_true rfl) ?_
  intro c a w hG hn h
  unfold digest_Log_Of at hF
  change SatL c [.slot 0 (eqVP p_0), .slot 1 (intVP .u8 a_1), .slot 2 (slVP strC a_2), .res (Log_e p_0 L_0)] a w at h
  refine wp_seq ?_
  refine region_do (n := 20) [.slot 6 0 100000 (fun v1_ _ => (lpVP v1_ 0)),
      .res 0 100000 (fun v1_ _ => (lb (v1_) 24 [bytesCk 32 (List.replicate 32 0)]))] [0, 0] [⟨[], [], [4, 5], [], some 6⟩] [0, 1, 2, 4, 3, 5] mixed hn hG h (by kernel_rfl) ?_ ?_
  · exact ⟨⟨rfl, fun β => (GOk.plain (op_alloc Tryd.zeroValue24 z24) rfl)⟩, trivial⟩
  clear h
  intro β a w h
  change SatL c [.slot 0 (eqVP p_0), .slot 1 (intVP .u8 a_1), .slot 2 (slVP strC a_2), .slot 6 (lpVP (β 0) 0), .res (Log_e p_0 L_0), .res (lb (β 0) 24 [bytesCk 32 (List.replicate 32 0)])] a w at h
  generalize β 0 = p1 at h
  clear β
  show Code.wp Tryd.prog _ _ a w
  refine wp_seq ?_
  obtain ⟨r2, hr2, hF⟩ := bind_some hF
  refine region_do (n := 20) [.slot 9 100000 100000 (fun _ _ => (intVP .u8 a_1)),
      .slot 10 100000 100000 (fun _ _ => (slVP strC a_2)),
      .slot 11 100000 100000 (fun _ _ => (strVP r2)),
      .slot 7 100000 100000 (fun _ _ => (strVP r2))] [0, 1, 2, 3] [⟨[1], [], [6], [], some 9⟩, ⟨[2], [], [7], [0], some 10⟩, ⟨[6, 7], [], [8], [0, 1], some 11⟩, ⟨[8], [], [9], [0, 1, 2], some 7⟩] [0, 3, 9, 4, 5] mixed hn hG h (by kernel_rfl) ?_ ?_
  · exact ⟨⟨rfl, fun β => (GOk.plain (op_move (opt 0 rfl)) rfl)⟩, ⟨rfl, fun β => (GOk.plain (op_move (opt 0 rfl)) rfl)⟩, ⟨rfl, fun β => (GOk.plain (op_call Tryd.call39 (digest_input_ok hr2) ⟨(opt 0 rfl), (opt 1 rfl), trivial⟩) rfl)⟩, ⟨rfl, fun β => (GOk.plain (op_assign (opt 0 rfl)) rfl)⟩, trivial⟩
  clear h
  intro β a w h
  change SatL c [.slot 0 (eqVP p_0), .slot 6 (lpVP p1 0), .slot 7 (strVP r2), .res (Log_e p_0 L_0), .res (lb p1 24 [bytesCk 32 (List.replicate 32 0)])] a w at h
  clear β
  show Code.wp Tryd.prog _ _ a w
  refine wp_seq ?_
  obtain ⟨r3, hr3, hF⟩ := bind_some hF
  refine region_do (n := 20) [.slot 12 100000 100000 (fun _ _ => (strVP r2)),
      .slot 13 100000 100000 (fun _ _ => (slVP strC [r2])),
      .slot 14 100000 100000 (fun _ _ => (aggVP [bytesCk 32 r3])),
      .slot 8 3 100000 (fun v1_ _ => (lpVP v1_ 0)),
      .res 3 100000 (fun v1_ _ => (lb (v1_) 24 [bytesCk 32 (List.replicate 32 0)])),
      .res 3 100000 (fun v1_ _ => (lb (v1_) 24 [bytesCk 32 r3]))] [0, 1, 2, 3, 3, 4] [⟨[2], [], [5], [], some 12⟩, ⟨[5], [], [6], [0], some 13⟩, ⟨[6], [], [7], [0, 1], some 14⟩, ⟨[], [], [8, 9], [0, 1, 2], some 8⟩, ⟨[8, 7], [9], [10], [0, 1, 2, 3], none⟩] [0, 1, 2, 8, 3, 4, 10] mixed hn hG h (by kernel_rfl) ?_ ?_
  · exact ⟨⟨rfl, fun β => (GOk.plain (op_move (opt 0 rfl)) rfl)⟩, ⟨rfl, fun β => (GOk.plain (op_lit (xs := [.tmp 12]) (ys := [r2]) _ rfl Tryd.underlying22 Tryd.sizeOf9 Tryd.zeroValue9 rfl rfl (by decide) (by decide) ⟨⟨_, (opt 0 rfl), (cells_one (one_str _))⟩, trivial⟩ lens_strC) rfl)⟩, ⟨rfl, fun β => (GOk.plain (op_call Tryd.call38 (sha_Sum_ok hr3) ⟨(opt 0 rfl), trivial⟩) rfl)⟩, ⟨rfl, fun β => (GOk.plain (op_alloc Tryd.zeroValue24 z24) rfl)⟩, ⟨rfl, fun β => (GOk.plain (op_store_lb [] [bytesCk 32 (List.replicate 32 0)] [] [bytesCk 32 r3] Tryd.sizeOf24 (opt 0 rfl) (opt 1 rfl) (cells_agg _) rfl rfl rfl) rfl)⟩, trivial⟩
  clear h
  intro β a w h
  change SatL c [.slot 0 (eqVP p_0), .slot 6 (lpVP p1 0), .slot 7 (strVP r2), .slot 8 (lpVP (β 3) 0), .res (Log_e p_0 L_0), .res (lb p1 24 [bytesCk 32 (List.replicate 32 0)]), .res (lb (β 3) 24 [bytesCk 32 r3])] a w at h
  generalize β 3 = p4 at h
  clear β
  show Code.wp Tryd.prog _ _ a w
  refine wp_seq ?_
  obtain ⟨r5, hr5, hF⟩ := bind_some hF
  refine region_do (n := 20) [.slot 15 100000 100000 (fun _ _ => (eqVP p_0)),
      .slot 16 100000 100000 (fun _ _ => (aggVP [bytesCk 32 r3])),
      .slot 17 100000 100000 (fun _ _ => (strVP r2)),
      .slot 18 100000 100000 (fun _ _ => (tupVP [])),
      .res 100000 100000 (fun _ _ => (Log_e p_0 r5))] [0, 1, 2, 3, 3] [⟨[0], [], [7], [], some 15⟩, ⟨[3, 6], [], [8], [0], some 16⟩, ⟨[2], [], [9], [0, 1], some 17⟩, ⟨[7, 8, 9], [4], [10, 11], [0, 1, 2], some 18⟩] [1, 3, 5, 6, 11] mixed hn hG h (by kernel_rfl) ?_ ?_
  · exact ⟨⟨rfl, fun β => (GOk.plain (op_move (opt 0 rfl)) rfl)⟩, ⟨rfl, fun β => (GOk.plain (op_load_lb [] [bytesCk 32 r3] [] 1 Tryd.isAgg24 Tryd.sizeOf24 (opt 0 rfl) rfl rfl rfl) rfl)⟩, ⟨rfl, fun β => (GOk.plain (op_move (opt 0 rfl)) rfl)⟩, ⟨rfl, fun β => (GOk.plain (op_call Tryd.call40 (digest_Log_note_ok hr5) ⟨(opt 0 rfl), (opt 1 rfl), (opt 2 rfl), trivial⟩) rfl)⟩, trivial⟩
  clear h
  intro β a w h
  change SatL c [.slot 6 (lpVP p1 0), .slot 8 (lpVP p4 0), .res (lb p1 24 [bytesCk 32 (List.replicate 32 0)]), .res (lb p4 24 [bytesCk 32 r3]), .res (Log_e p_0 r5)] a w at h
  clear β
  show Code.wp Tryd.prog _ _ a w
  refine wp_seq ?_
  refine region_do (n := 20) [.slot 19 100000 100000 (fun _ _ => (aggVP [bytesCk 32 r3])),
      .res 100000 100000 (fun _ _ => (lb p1 24 [bytesCk 32 r3]))] [0, 1] [⟨[1, 3], [], [5], [], some 19⟩, ⟨[0, 5], [2], [6], [0], none⟩] [0, 6, 4] mixed hn hG h (by kernel_rfl) ?_ ?_
  · exact ⟨⟨rfl, fun β => (GOk.plain (op_load_lb [] [bytesCk 32 r3] [] 1 Tryd.isAgg24 Tryd.sizeOf24 (opt 0 rfl) rfl rfl rfl) rfl)⟩, ⟨rfl, fun β => (GOk.plain (op_store_lb [] [bytesCk 32 (List.replicate 32 0)] [] [bytesCk 32 r3] Tryd.sizeOf24 (opt 0 rfl) (opt 1 rfl) (cells_agg _) rfl rfl rfl) rfl)⟩, trivial⟩
  clear h
  intro β a w h
  change SatL c [.slot 6 (lpVP p1 0), .res (lb p1 24 [bytesCk 32 r3]), .res (Log_e p_0 r5)] a w at h
  clear β
  show Code.wp Tryd.prog _ _ a w
  refine wp_ret ?_
  obtain rfl := Option.some.inj hF
  exact ⟨.inl rfl, ret1 h Tryd.results14 (r_cell 0 1 rfl rfl Tryd.isAgg24 Tryd.sizeOf24 rfl) [2] [(Log_e p_0 r5)] rfl rfl rfl⟩

def wire_Digest (a_0 : List UInt8) : Option (List UInt8) := some (a_0.take ((32 : Int).toNat - (0 : Int).toNat))
theorem wire_Digest_ok {a_0 : List UInt8} {r : (List UInt8)} (hF : wire_Digest a_0 = some r) : CallOk Tryd.prog KG 41 [(aggVP [bytesCk 32 a_0])] [] (fun _ => []) (strVP r) := by
  refine CallOk.intro 5 Tryd.func41 rfl Tryd.ntmps41 (Nat.le_of_ble_eq_true rfl) ?_
  intro c a w hG hn h
  unfold wire_Digest at hF
  change SatL c [.slot 0 (aggVP [bytesCk 32 a_0])] a w at h
  refine wp_seq ?_
  refine region_do (n := 5) [.slot 1 0 100000 (fun v1_ _ => (lpVP v1_ 0)),
      .res 0 100000 (fun v1_ _ => (lb (v1_) 24 [bytesCk 32 a_0])),
      .slot 2 100000 100000 (fun _ _ => (strVP []))] [0, 0, 1] [⟨[0], [], [1, 2], [], some 1⟩, ⟨[], [], [3], [0], some 2⟩] [1, 2] mixed hn hG h (by kernel_rfl) ?_ ?_
  · exact ⟨⟨rfl, fun β => (GOk.plain (op_box (opt 0 rfl) (cells_agg _)) rfl)⟩, ⟨rfl, fun β => (GOk.plain (op_assign (opc (sc _ (by decide)))) rfl)⟩, trivial⟩
  clear h
  intro β a w h
  change SatL c [.slot 1 (lpVP (β 0) 0), .res (lb (β 0) 24 [bytesCk 32 a_0])] a w at h
  generalize β 0 = p1 at h
  clear β
  show Code.wp Tryd.prog _ _ a w
  refine wp_seq ?_
  refine region_do (n := 5) [.slot 3 100000 100000 (fun _ _ => (lslVP p1 (0 + (0 : Int).toNat * 1) ((32 : Int).toNat - (0 : Int).toNat) (32 - (0 : Int).toNat))),
      .slot 4 100000 100000 (fun _ _ => (strVP (a_0.take ((32 : Int).toNat - (0 : Int).toNat)))),
      .slot 2 100000 100000 (fun _ _ => (strVP (a_0.take ((32 : Int).toNat - (0 : Int).toNat))))] [0, 1, 2] [⟨[0], [], [2], [], some 3⟩, ⟨[2, 1], [], [3], [0], some 4⟩, ⟨[3], [], [4], [0, 1], some 2⟩] [4] mixed hn hG h (by kernel_rfl) ?_ ?_
  · exact ⟨⟨rfl, fun β => (GOk.plain (op_slice_lb (a := 0) (b := 32) Tryd.underlying24 Tryd.sizeOf5 (opt 0 rfl) rfl rfl (by decide)) rfl)⟩, ⟨rfl, fun β => (GOk.plain (op_str_lsl [] [] 1 Tryd.underlying79 Tryd.underlying5 Tryd.underlying9 (opt 0 rfl) rfl rfl (by decide) (by decide)) rfl)⟩, ⟨rfl, fun β => (GOk.plain (op_assign (opt 0 rfl)) rfl)⟩, trivial⟩
  clear h
  intro β a w h
  change SatL c [.slot 2 (strVP (a_0.take ((32 : Int).toNat - (0 : Int).toNat)))] a w at h
  clear β
  show Code.wp Tryd.prog _ _ a w
  refine wp_ret ?_
  obtain rfl := Option.some.inj hF
  exact ⟨.inl rfl, ret1 h Tryd.results41 (r_tmp 0 rfl) [] [] rfl rfl rfl⟩

def digest_Log_Two (L_0 : Option O_Log) (a_1 : Int) (a_2 : List UInt8) (a_3 : List UInt8) : Option ((List UInt8) × (Option O_Log)) := ((wire_Digest a_2).bind fun r4 => ((wire_Digest a_3).bind fun r5 => ((digest_Log_Of L_0 a_1 [r4, r5]).bind fun r6 => some (r6.1, r6.2))))
theorem digest_Log_Two_ok {p_0 : Value} {L_0 : Option O_Log} {a_1 : Int} {a_2 : List UInt8} {a_3 : List UInt8} {r : (List UInt8) × (Option O_Log)} (hF : digest_Log_Two L_0 a_1 a_2 a_3 = some r) : CallOk Tryd.prog KG 18 [(eqVP p_0), (intVP .u8 a_1), (aggVP [bytesCk 32 a_2]), (aggVP [bytesCk 32 a_3])] [(Log_e p_0 L_0)] (fun _ => [Log_e p_0 r.2]) (aggVP [bytesCk 32 r.1]) := by
  refine CallOk.intro 17 Tryd.func18 rfl Tryd.ntmps18 (Nat.le_of_ble_eq_true rfl) ?_
  intro c a w hG hn h
  unfold digest_Log_Two at hF
  change SatL c [.slot 0 (eqVP p_0), .slot 1 (intVP .u8 a_1), .slot 2 (aggVP [bytesCk 32 a_2]), .slot 3 (aggVP [bytesCk 32 a_3]), .res (Log_e p_0 L_0)] a w at h
  refine wp_seq ?_
  refine region_do (n := 17) [.slot 6 0 100000 (fun v1_ _ => (lpVP v1_ 0)),
      .res 0 100000 (fun v1_ _ => (lb (v1_) 24 [bytesCk 32 a_2])),
      .slot 7 1 100000 (fun v1_ _ => (lpVP v1_ 0)),
      .res 1 100000 (fun v1_ _ => (lb (v1_) 24 [bytesCk 32 a_3])),
      .slot 8 2 100000 (fun v1_ _ => (lpVP v1_ 0)),
      .res 2 100000 (fun v1_ _ => (lb (v1_) 24 [bytesCk 32 (List.replicate 32 0)]))] [0, 0, 1, 1, 2, 2] [⟨[2], [], [5, 6], [], some 6⟩, ⟨[3], [], [7, 8], [0], some 7⟩, ⟨[], [], [9, 10], [0, 1], some 8⟩] [0, 1, 5, 7, 9, 4, 6, 8, 10] mixed hn hG h (by kernel_rfl) ?_ ?_
  · exact ⟨⟨rfl, fun β => (GOk.plain (op_box (opt 0 rfl) (cells_agg _)) rfl)⟩, ⟨rfl, fun β => (GOk.plain (op_box (opt 0 rfl) (cells_agg _)) rfl)⟩, ⟨rfl, fun β => (GOk.plain (op_alloc Tryd.zeroValue24 z24) rfl)⟩, trivial⟩
  clear h
  intro β a w h
  change SatL c [.slot 0 (eqVP p_0), .slot 1 (intVP .u8 a_1), .slot 6 (lpVP (β 0) 0), .slot 7 (lpVP (β 1) 0), .slot 8 (lpVP (β 2) 0), .res (Log_e p_0 L_0), .res (lb (β 0) 24 [bytesCk 32 a_2]), .res (lb (β 1) 24 [bytesCk 32 a_3]), .res (lb (β 2) 24 [bytesCk 32 (List.replicate 32 0)])] a w at h
  generalize β 0 = p1 at h
  generalize β 1 = p2 at h
  generalize β 2 = p3 at h
  clear β
  show Code.wp Tryd.prog _ _ a w
  refine wp_seq ?_
  obtain ⟨r4, hr4, hF⟩ := bind_some hF
  obtain ⟨r5, hr5, hF⟩ := bind_some hF
  obtain ⟨r6, hr6, hF⟩ := bind_some hF
  refine region_do (n := 17) [.slot 9 100000 100000 (fun _ _ => (eqVP p_0)),
      .slot 10 100000 100000 (fun _ _ => (intVP .u8 a_1)),
      .slot 11 100000 100000 (fun _ _ => (aggVP [bytesCk 32 a_2])),
      .slot 12 100000 100000 (fun _ _ => (strVP r4)),
      .slot 13 100000 100000 (fun _ _ => (aggVP [bytesCk 32 a_3])),
      .slot 14 100000 100000 (fun _ _ => (strVP r5)),
      .slot 15 100000 100000 (fun _ _ => (slVP strC [r4, r5])),
      .slot 16 100000 100000 (fun _ _ => (aggVP [bytesCk 32 r6.1])),
      .res 100000 100000 (fun _ _ => (Log_e p_0 r6.2)),
      .res 100000 100000 (fun _ _ => (lb p3 24 [bytesCk 32 r6.1]))] [0, 1, 2, 3, 4, 5, 6, 7, 7, 8] [⟨[0], [], [9], [], some 9⟩, ⟨[1], [], [10], [], some 10⟩, ⟨[2, 6], [], [11], [], some 11⟩, ⟨[11], [], [12], [2], some 12⟩, ⟨[3, 7], [], [13], [], some 13⟩, ⟨[13], [], [14], [2, 3, 4], some 14⟩, ⟨[12, 14], [], [15], [2, 3, 4, 5], some 15⟩, ⟨[9, 10, 15], [5], [16, 17], [0, 1, 2, 3, 4, 5, 6], some 16⟩, ⟨[4, 16], [8], [18], [0, 1, 2, 3, 4, 5, 6, 7], none⟩] [4, 18, 17] mixed hn hG h (by kernel_rfl) ?_ ?_
  · exact ⟨⟨rfl, fun β => (GOk.plain (op_move (opt 0 rfl)) rfl)⟩, ⟨rfl, fun β => (GOk.plain (op_move (opt 0 rfl)) rfl)⟩, ⟨rfl, fun β => (GOk.plain (op_load_lb [] [bytesCk 32 a_2] [] 1 Tryd.isAgg24 Tryd.sizeOf24 (opt 0 rfl) rfl rfl rfl) rfl)⟩, ⟨rfl, fun β => (GOk.plain (op_call Tryd.call41 (wire_Digest_ok hr4) ⟨(opt 0 rfl), trivial⟩) rfl)⟩, ⟨rfl, fun β => (GOk.plain (op_load_lb [] [bytesCk 32 a_3] [] 1 Tryd.isAgg24 Tryd.sizeOf24 (opt 0 rfl) rfl rfl rfl) rfl)⟩, ⟨rfl, fun β => (GOk.plain (op_call Tryd.call41 (wire_Digest_ok hr5) ⟨(opt 0 rfl), trivial⟩) rfl)⟩, ⟨rfl, fun β => (GOk.plain (op_lit (xs := [.tmp 12, .tmp 14]) (ys := [r4, r5]) _ rfl Tryd.underlying22 Tryd.sizeOf9 Tryd.zeroValue9 rfl rfl (by decide) (by decide) ⟨⟨_, (opt 0 rfl), (cells_one (one_str _))⟩, ⟨_, (opt 1 rfl), (cells_one (one_str _))⟩, trivial⟩ lens_strC) rfl)⟩, ⟨rfl, fun β => (GOk.plain (op_call Tryd.call14 (digest_Log_Of_ok hr6) ⟨(opt 0 rfl), (opt 1 rfl), (opt 2 rfl), trivial⟩) rfl)⟩, ⟨rfl, fun β => (GOk.plain (op_store_lb [] [bytesCk 32 (List.replicate 32 0)] [] [bytesCk 32 r6.1] Tryd.sizeOf24 (opt 0 rfl) (opt 1 rfl) (cells_agg _) rfl rfl rfl) rfl)⟩, trivial⟩
  clear h
  intro β a w h
  change SatL c [.slot 8 (lpVP p3 0), .res (lb p3 24 [bytesCk 32 r6.1]), .res (Log_e p_0 r6.2)] a w at h
  clear β
  show Code.wp Tryd.prog _ _ a w
  refine wp_ret ?_
  obtain rfl := Option.some.inj hF
  exact ⟨.inl rfl, ret1 h Tryd.results18 (r_cell 0 1 rfl rfl Tryd.isAgg24 Tryd.sizeOf24 rfl) [2] [(Log_e p_0 r6.2)] rfl rfl rfl⟩

def law04_awake.j1 (x7 : Bool) : Option Bool := some x7
def law04_awake : Option Bool := ((digest_New).bind fun r1 => ((digest_Log_Of (some r1) 1 []).bind fun r3 => ((sha_Sum [[1]]).bind fun r4 => (if (decide (r3.1 = r4)) = true then ((digest_Log_Count r3.2).bind fun r5 => (if (decide (r5 = (1 : Int))) = true then ((digest_Log_Clash r3.2).bind fun r6 => law04_awake.j1 (!r6)) else law04_awake.j1 false)) else law04_awake.j1 false))))
theorem law04_awake_ok {r : Bool} (hF : law04_awake = some r) : CallOk Tryd.prog KG 11 [] [] (fun _ => []) (boolVP r) := by
  refine CallOk.intro 18 Tryd.func11 rfl Tryd.ntmps11 (Nat.le_of_ble_eq_true rfl) ?_
  intro c a w hG hn h
  unfold law04_awake at hF
  change SatL c [] a w at h
  refine wp_seq ?_
  refine region_do (n := 18) [.slot 0 100000 100000 (fun _ _ => (boolVP false))] [0] [⟨[], [], [0], [], some 0⟩] [] mixed hn hG h (by kernel_rfl) ?_ ?_
  · exact ⟨⟨rfl, fun β => (GOk.plain (op_assign (opc (bc _))) rfl)⟩, trivial⟩
  clear h
  intro β a w h
  change SatL c [] a w at h
  clear β
  show Code.wp Tryd.prog _ _ a w
  refine wp_seq ?_
  obtain ⟨r1, hr1, hF⟩ := bind_some hF
  refine region_do (n := 18) [.slot 2 0 100000 (fun v1_ _ => (eqVP v1_)),
      .res 0 100000 (fun v1_ _ => (Log_e (v1_) (some r1))),
      .slot 1 0 100000 (fun v1_ _ => (eqVP v1_))] [0, 0, 1] [⟨[], [], [0, 1], [], some 2⟩, ⟨[0], [], [2], [0], some 1⟩] [2, 1] mixed hn hG h (by kernel_rfl) ?_ ?_
  · exact ⟨⟨rfl, fun β => (GOk.plain (op_callv Tryd.call13 (digest_New_ok hr1) trivial) rfl)⟩, ⟨rfl, fun β => (GOk.plain (op_assign (V := (eqVP (β 0))) (opt 0 rfl)) rfl)⟩, trivial⟩
  clear h
  intro β a w h
  change SatL c [.slot 1 (eqVP (β 0)), .res (Log_e (β 0) (some r1))] a w at h
  generalize β 0 = p2 at h
  clear β
  show Code.wp Tryd.prog _ _ a w
  refine wp_seq ?_
  obtain ⟨r3, hr3, hF⟩ := bind_some hF
  obtain ⟨r4, hr4, hF⟩ := bind_some hF
  refine wp_cut (fun a w => ∃ (x7 : Bool), law04_awake.j1 x7 = some r ∧ SatL c [.slot 0 (boolVP x7), .res (Log_e p2 r3.2)] a w) ?_ ?_
  · rcases Bool.eq_false_or_eq_true (decide (r3.1 = r4)) with hb8 | hb8
    · replace hF := tt_of hb8 hF
      obtain ⟨r5, hr5, hF⟩ := bind_some hF
      rcases Bool.eq_false_or_eq_true (decide (r5 = (1 : Int))) with hb9 | hb9
      · replace hF := tt_of hb9 hF
        obtain ⟨r6, hr6, hF⟩ := bind_some hF
        refine region_do (n := 18) [.slot 3 100000 100000 (fun _ _ => (eqVP p2)),
      .slot 4 100000 100000 (fun _ _ => (aggVP [bytesCk 32 r3.1])),
      .res 100000 100000 (fun _ _ => (Log_e p2 r3.2)),
      .slot 5 100000 100000 (fun _ _ => (slVP strC [[1]])),
      .slot 6 100000 100000 (fun _ _ => (aggVP [bytesCk 32 r4])),
      .slot 7 100000 100000 (fun _ _ => (boolVP (decide (r3.1 = r4)))),
      .slot 8 100000 100000 (fun _ _ => (boolVP (decide (r3.1 = r4)))),
      .slot 9 100000 100000 (fun _ _ => (eqVP p2)),
      .slot 10 100000 100000 (fun _ _ => (intVP .i64 r5)),
      .res 100000 100000 (fun _ _ => (Log_e p2 r3.2)),
      .slot 11 100000 100000 (fun _ _ => (boolVP (decide (r5 = (1 : Int))))),
      .slot 12 100000 100000 (fun _ _ => (boolVP (decide (r5 = (1 : Int))))),
      .slot 13 100000 100000 (fun _ _ => (boolVP (decide (r5 = (1 : Int))))),
      .slot 14 100000 100000 (fun _ _ => (eqVP p2)),
      .slot 15 100000 100000 (fun _ _ => (boolVP r6)),
      .res 100000 100000 (fun _ _ => (Log_e p2 r3.2)),
      .slot 16 100000 100000 (fun _ _ => (boolVP (!r6))),
      .slot 17 100000 100000 (fun _ _ => (boolVP (!r6))),
      .slot 0 100000 100000 (fun _ _ => (boolVP (!r6)))] [0, 1, 1, 2, 3, 4, 5, 6, 7, 7, 8, 9, 10, 11, 12, 12, 13, 14, 15] [⟨[0], [], [2], [], some 3⟩, ⟨[2], [1], [3, 4], [0], some 4⟩, ⟨[], [], [5], [0, 1], some 5⟩, ⟨[5], [], [6], [0, 1, 2], some 6⟩, ⟨[3, 6], [], [7], [0, 1, 2, 3], some 7⟩, ⟨[7], [], [8], [0, 1, 2, 3, 4], some 8⟩, ⟨[8, 0], [], [9], [0, 1, 2, 3, 4, 5], some 9⟩, ⟨[8, 9], [4], [10, 11], [0, 1, 2, 3, 4, 5, 6], some 10⟩, ⟨[8, 10], [], [12], [0, 1, 2, 3, 4, 5, 6, 7], some 11⟩, ⟨[8, 12], [], [13], [0, 1, 2, 3, 4, 5, 6, 7, 8], some 12⟩, ⟨[13], [], [14], [0, 1, 2, 3, 4, 5, 6, 7, 8, 9], some 13⟩, ⟨[14, 0], [], [15], [0, 1, 2, 3, 4, 5, 6, 7, 8, 9, 10], some 14⟩, ⟨[14, 15], [11], [16, 17], [0, 1, 2, 3, 4, 5, 6, 7, 8, 9, 10, 11], some 15⟩, ⟨[14, 16], [], [18], [0, 1, 2, 3, 4, 5, 6, 7, 8, 9, 10, 11, 12], some 16⟩, ⟨[14, 18], [], [19], [0, 1, 2, 3, 4, 5, 6, 7, 8, 9, 10, 11, 12, 13], some 17⟩, ⟨[19], [], [20], [0, 1, 2, 3, 4, 5, 6, 7, 8, 9, 10, 11, 12, 13, 14], some 0⟩] [20, 17] mixed hn hG h (by kernel_rfl) ?_ ?_
        · exact ⟨⟨rfl, fun β => (GOk.plain (op_move (opt 0 rfl)) rfl)⟩, ⟨rfl, fun β => (GOk.plain (op_call Tryd.call14 (digest_Log_Of_ok hr3) ⟨(opt 0 rfl), (opc (ic (by decide))), nilc_sl, trivial⟩) rfl)⟩, ⟨rfl, fun β => (GOk.plain (op_lit (xs := [.const (.string ⟨#[1]⟩)]) (ys := [[1]]) _ rfl Tryd.underlying22 Tryd.sizeOf9 Tryd.zeroValue9 rfl rfl (by decide) (by decide) ⟨⟨_, (opc (sc _ (by decide))), (cells_one (one_str _))⟩, trivial⟩ lens_strC) rfl)⟩, ⟨rfl, fun β => (GOk.plain (op_call Tryd.call38 (sha_Sum_ok hr4) ⟨(opt 0 rfl), trivial⟩) rfl)⟩, ⟨rfl, fun β => (GOk.plain (op_bin (bin_aeql Tryd.underlying24 Tryd.underlying5 Tryd.type5 Tryd.sizeOf5 Tryd.isAgg5 Tryd.eqGuardType24) (opt 0 rfl) (opt 1 rfl)) rfl)⟩, ⟨rfl, fun β => (GOk.plain (op_move (opt 0 rfl)) rfl)⟩, ⟨rfl, fun β => (GOk.on_eq hb8 rfl rfl rfl (op_move (opt 0 rfl)))⟩, ⟨rfl, fun β => (GOk.on_eq hb8 rfl rfl rfl (op_call Tryd.call15 (digest_Log_Count_oke hr5) ⟨(opt 0 rfl), trivial⟩))⟩, ⟨rfl, fun β => (GOk.on_eq hb8 rfl rfl rfl (op_bin bin_eql (opt 0 rfl) (opc (ic (by decide)))))⟩, ⟨rfl, fun β => (GOk.plain (op_pick_t hb8 (opt 0 rfl) (opt 1 rfl)) rfl)⟩, ⟨rfl, fun β => (GOk.plain (op_move (opt 0 rfl)) rfl)⟩, ⟨rfl, fun β => (GOk.on_eq hb9 rfl rfl rfl (op_move (opt 0 rfl)))⟩, ⟨rfl, fun β => (GOk.on_eq hb9 rfl rfl rfl (op_call Tryd.call16 (digest_Log_Clash_oke hr6) ⟨(opt 0 rfl), trivial⟩))⟩, ⟨rfl, fun β => (GOk.on_eq hb9 rfl rfl rfl (op_un (un_not _) (opt 0 rfl)))⟩, ⟨rfl, fun β => (GOk.plain (op_pick_t hb9 (opt 0 rfl) (opt 1 rfl)) rfl)⟩, ⟨rfl, fun β => (GOk.plain (op_assign (opt 0 rfl)) rfl)⟩, trivial⟩
        clear h
        intro β a w h
        change SatL c [.slot 0 (boolVP (!r6)), .res (Log_e p2 r3.2)] a w at h
        clear β
        exact ⟨!r6, hF, h.sub [0, 1] (by rfl)⟩
      · replace hF := ff_of hb9 hF
        refine region_do (n := 18) [.slot 3 100000 100000 (fun _ _ => (eqVP p2)),
      .slot 4 100000 100000 (fun _ _ => (aggVP [bytesCk 32 r3.1])),
      .res 100000 100000 (fun _ _ => (Log_e p2 r3.2)),
      .slot 5 100000 100000 (fun _ _ => (slVP strC [[1]])),
      .slot 6 100000 100000 (fun _ _ => (aggVP [bytesCk 32 r4])),
      .slot 7 100000 100000 (fun _ _ => (boolVP (decide (r3.1 = r4)))),
      .slot 8 100000 100000 (fun _ _ => (boolVP (decide (r3.1 = r4)))),
      .slot 9 100000 100000 (fun _ _ => (eqVP p2)),
      .slot 10 100000 100000 (fun _ _ => (intVP .i64 r5)),
      .res 100000 100000 (fun _ _ => (Log_e p2 r3.2)),
      .slot 11 100000 100000 (fun _ _ => (boolVP (decide (r5 = (1 : Int))))),
      .slot 12 100000 100000 (fun _ _ => (boolVP (decide (r5 = (1 : Int))))),
      .slot 13 100000 100000 (fun _ _ => (boolVP (decide (r5 = (1 : Int))))),
      .slot 14 100000 100000 (fun _ _ => (eqVP undef)),
      .slot 15 100000 100000 (fun _ _ => (eqVP undef)),
      .slot 16 100000 100000 (fun _ _ => (eqVP undef)),
      .slot 17 100000 100000 (fun _ _ => (boolVP false)),
      .slot 0 100000 100000 (fun _ _ => (boolVP false))] [0, 1, 1, 2, 3, 4, 5, 6, 7, 7, 8, 9, 10, 11, 12, 13, 14, 15] [⟨[0], [], [2], [], some 3⟩, ⟨[2], [1], [3, 4], [0], some 4⟩, ⟨[], [], [5], [0, 1], some 5⟩, ⟨[5], [], [6], [0, 1, 2], some 6⟩, ⟨[3, 6], [], [7], [0, 1, 2, 3], some 7⟩, ⟨[7], [], [8], [0, 1, 2, 3, 4], some 8⟩, ⟨[8, 0], [], [9], [0, 1, 2, 3, 4, 5], some 9⟩, ⟨[8, 9], [4], [10, 11], [0, 1, 2, 3, 4, 5, 6], some 10⟩, ⟨[8, 10], [], [12], [0, 1, 2, 3, 4, 5, 6, 7], some 11⟩, ⟨[8, 12], [], [13], [0, 1, 2, 3, 4, 5, 6, 7, 8], some 12⟩, ⟨[13], [], [14], [0, 1, 2, 3, 4, 5, 6, 7, 8, 9], some 13⟩, ⟨[14], [], [15], [0, 1, 2, 3, 4, 5, 6, 7, 8, 9, 10], some 14⟩, ⟨[14], [], [16], [0, 1, 2, 3, 4, 5, 6, 7, 8, 9, 10, 11], some 15⟩, ⟨[14], [], [17], [0, 1, 2, 3, 4, 5, 6, 7, 8, 9, 10, 11, 12], some 16⟩, ⟨[14], [], [18], [0, 1, 2, 3, 4, 5, 6, 7, 8, 9, 10, 11, 12, 13], some 17⟩, ⟨[18], [], [19], [0, 1, 2, 3, 4, 5, 6, 7, 8, 9, 10, 11, 12, 13, 14], some 0⟩] [19, 11] mixed hn hG h (by kernel_rfl) ?_ ?_
        · exact ⟨⟨rfl, fun β => (GOk.plain (op_move (opt 0 rfl)) rfl)⟩, ⟨rfl, fun β => (GOk.plain (op_call Tryd.call14 (digest_Log_Of_ok hr3) ⟨(opt 0 rfl), (opc (ic (by decide))), nilc_sl, trivial⟩) rfl)⟩, ⟨rfl, fun β => (GOk.plain (op_lit (xs := [.const (.string ⟨#[1]⟩)]) (ys := [[1]]) _ rfl Tryd.underlying22 Tryd.sizeOf9 Tryd.zeroValue9 rfl rfl (by decide) (by decide) ⟨⟨_, (opc (sc _ (by decide))), (cells_one (one_str _))⟩, trivial⟩ lens_strC) rfl)⟩, ⟨rfl, fun β => (GOk.plain (op_call Tryd.call38 (sha_Sum_ok hr4) ⟨(opt 0 rfl), trivial⟩) rfl)⟩, ⟨rfl, fun β => (GOk.plain (op_bin (bin_aeql Tryd.underlying24 Tryd.underlying5 Tryd.type5 Tryd.sizeOf5 Tryd.isAgg5 Tryd.eqGuardType24) (opt 0 rfl) (opt 1 rfl)) rfl)⟩, ⟨rfl, fun β => (GOk.plain (op_move (opt 0 rfl)) rfl)⟩, ⟨rfl, fun β => (GOk.on_eq hb8 rfl rfl rfl (op_move (opt 0 rfl)))⟩, ⟨rfl, fun β => (GOk.on_eq hb8 rfl rfl rfl (op_call Tryd.call15 (digest_Log_Count_oke hr5) ⟨(opt 0 rfl), trivial⟩))⟩, ⟨rfl, fun β => (GOk.on_eq hb8 rfl rfl rfl (op_bin bin_eql (opt 0 rfl) (opc (ic (by decide)))))⟩, ⟨rfl, fun β => (GOk.plain (op_pick_t hb8 (opt 0 rfl) (opt 1 rfl)) rfl)⟩, ⟨rfl, fun β => (GOk.plain (op_move (opt 0 rfl)) rfl)⟩, ⟨rfl, fun β => (GOk.off_v (want := true) hb9 rfl rfl rfl rfl)⟩, ⟨rfl, fun β => (GOk.off_v (want := true) hb9 rfl rfl rfl rfl)⟩, ⟨rfl, fun β => (GOk.off_v (want := true) hb9 rfl rfl rfl rfl)⟩, ⟨rfl, fun β => (GOk.plain (op_pick_f hb9 (opt 0 rfl) (opc (bc _))) rfl)⟩, ⟨rfl, fun β => (GOk.plain (op_assign (opt 0 rfl)) rfl)⟩, trivial⟩
        clear h
        intro β a w h
        change SatL c [.slot 0 (boolVP false), .res (Log_e p2 r3.2)] a w at h
        clear β
        exact ⟨false, hF, h.sub [0, 1] (by rfl)⟩
    · replace hF := ff_of hb8 hF
      refine region_do (n := 18) [.slot 3 100000 100000 (fun _ _ => (eqVP p2)),
      .slot 4 100000 100000 (fun _ _ => (aggVP [bytesCk 32 r3.1])),
      .res 100000 100000 (fun _ _ => (Log_e p2 r3.2)),
      .slot 5 100000 100000 (fun _ _ => (slVP strC [[1]])),
      .slot 6 100000 100000 (fun _ _ => (aggVP [bytesCk 32 r4])),
      .slot 7 100000 100000 (fun _ _ => (boolVP (decide (r3.1 = r4)))),
      .slot 8 100000 100000 (fun _ _ => (boolVP (decide (r3.1 = r4)))),
      .slot 9 100000 100000 (fun _ _ => (eqVP undef)),
      .slot 10 100000 100000 (fun _ _ => (eqVP undef)),
      .slot 11 100000 100000 (fun _ _ => (eqVP undef)),
      .slot 12 100000 100000 (fun _ _ => (boolVP false)),
      .slot 13 100000 100000 (fun _ _ => (boolVP false)),
      .slot 14 100000 100000 (fun _ _ => (eqVP undef)),
      .slot 15 100000 100000 (fun _ _ => (eqVP undef)),
      .slot 16 100000 100000 (fun _ _ => (eqVP undef)),
      .slot 17 100000 100000 (fun _ _ => (boolVP false)),
      .slot 0 100000 100000 (fun _ _ => (boolVP false))] [0, 1, 1, 2, 3, 4, 5, 6, 7, 8, 9, 10, 11, 12, 13, 14, 15] [⟨[0], [], [2], [], some 3⟩, ⟨[2], [1], [3, 4], [0], some 4⟩, ⟨[], [], [5], [0, 1], some 5⟩, ⟨[5], [], [6], [0, 1, 2], some 6⟩, ⟨[3, 6], [], [7], [0, 1, 2, 3], some 7⟩, ⟨[7], [], [8], [0, 1, 2, 3, 4], some 8⟩, ⟨[8], [], [9], [0, 1, 2, 3, 4, 5], some 9⟩, ⟨[8], [], [10], [0, 1, 2, 3, 4, 5, 6], some 10⟩, ⟨[8], [], [11], [0, 1, 2, 3, 4, 5, 6, 7], some 11⟩, ⟨[8], [], [12], [0, 1, 2, 3, 4, 5, 6, 7, 8], some 12⟩, ⟨[12], [], [13], [0, 1, 2, 3, 4, 5, 6, 7, 8, 9], some 13⟩, ⟨[13], [], [14], [0, 1, 2, 3, 4, 5, 6, 7, 8, 9, 10], some 14⟩, ⟨[13], [], [15], [0, 1, 2, 3, 4, 5, 6, 7, 8, 9, 10, 11], some 15⟩, ⟨[13], [], [16], [0, 1, 2, 3, 4, 5, 6, 7, 8, 9, 10, 11, 12], some 16⟩, ⟨[13], [], [17], [0, 1, 2, 3, 4, 5, 6, 7, 8, 9, 10, 11, 12, 13], some 17⟩, ⟨[17], [], [18], [0, 1, 2, 3, 4, 5, 6, 7, 8, 9, 10, 11, 12, 13, 14], some 0⟩] [18, 4] mixed hn hG h (by kernel_rfl) ?_ ?_
      · exact ⟨⟨rfl, fun β => (GOk.plain (op_move (opt 0 rfl)) rfl)⟩, ⟨rfl, fun β => (GOk.plain (op_call Tryd.call14 (digest_Log_Of_ok hr3) ⟨(opt 0 rfl), (opc (ic (by decide))), nilc_sl, trivial⟩) rfl)⟩, ⟨rfl, fun β => (GOk.plain (op_lit (xs := [.const (.string ⟨#[1]⟩)]) (ys := [[1]]) _ rfl Tryd.underlying22 Tryd.sizeOf9 Tryd.zeroValue9 rfl rfl (by decide) (by decide) ⟨⟨_, (opc (sc _ (by decide))), (cells_one (one_str _))⟩, trivial⟩ lens_strC) rfl)⟩, ⟨rfl, fun β => (GOk.plain (op_call Tryd.call38 (sha_Sum_ok hr4) ⟨(opt 0 rfl), trivial⟩) rfl)⟩, ⟨rfl, fun β => (GOk.plain (op_bin (bin_aeql Tryd.underlying24 Tryd.underlying5 Tryd.type5 Tryd.sizeOf5 Tryd.isAgg5 Tryd.eqGuardType24) (opt 0 rfl) (opt 1 rfl)) rfl)⟩, ⟨rfl, fun β => (GOk.plain (op_move (opt 0 rfl)) rfl)⟩, ⟨rfl, fun β => (GOk.off_v (want := true) hb8 rfl rfl rfl rfl)⟩, ⟨rfl, fun β => (GOk.off_v (want := true) hb8 rfl rfl rfl rfl)⟩, ⟨rfl, fun β => (GOk.off_v (want := true) hb8 rfl rfl rfl rfl)⟩, ⟨rfl, fun β => (GOk.plain (op_pick_f hb8 (opt 0 rfl) (opc (bc _))) rfl)⟩, ⟨rfl, fun β => (GOk.plain (op_move (opt 0 rfl)) rfl)⟩, ⟨rfl, fun β => (GOk.off_v (want := true) rfl rfl rfl rfl rfl)⟩, ⟨rfl, fun β => (GOk.off_v (want := true) rfl rfl rfl rfl rfl)⟩, ⟨rfl, fun β => (GOk.off_v (want := true) rfl rfl rfl rfl rfl)⟩, ⟨rfl, fun β => (GOk.plain (op_pick_f rfl (opt 0 rfl) (opc (bc _))) rfl)⟩, ⟨rfl, fun β => (GOk.plain (op_assign (opt 0 rfl)) rfl)⟩, trivial⟩
      clear h
      intro β a w h
      change SatL c [.slot 0 (boolVP false), .res (Log_e p2 r3.2)] a w at h
      clear β
      exact ⟨false, hF, h.sub [0, 1] (by rfl)⟩
  · clear h hF
    rintro a w ⟨x7, hF, h⟩
    unfold law04_awake.j1 at hF
    show Code.wp Tryd.prog _ _ a w
    refine wp_ret ?_
    obtain rfl := Option.some.inj hF
    exact ⟨.inl rfl, ret1 h Tryd.results11 (r_tmp 0 rfl) [] [] rfl rfl rfl⟩

def law04_light.b2 (a_0 : List (S_law04_Ask)) (x14 : Int) (x37 : Int) : Option (Flow Bool Int) := (if (decide (x37 < (((a_0.getD x14.toNat default).f_Parts).length : Int))) = true then (if (0 : Int) ≤ x37 ∧ x37 < ((a_0.getD x14.toNat default).f_Parts).length then (if (decide ((1000 : Int) < ((((a_0.getD x14.toNat default).f_Parts).getD x37.toNat default).length : Int))) = true then some (.ret false) else some (.cont (IntKind.wrap .i64 (x37 + 1)))) else none) else some (.brk x37))
def law04_light.j1 (a_0 : List (S_law04_Ask)) (x14 : Int) (x32 : Bool) : Option (Flow Bool Int) := (if x32 = true then some (.ret false) else ((loopN (fun s : Int => law04_light.b2 a_0 x14 s) (((((a_0.getD x14.toNat default).f_Parts).length : Int) - 0 : Int).toNat + 2) 0).bind fun cr => match cr with | .ret r => some (.ret r) | .next y49 => some (.cont (IntKind.wrap .i64 (x14 + 1)))))
def law04_light.b1 (a_0 : List (S_law04_Ask)) (x14 : Int) : Option (Flow Bool Int) := (if (decide (x14 < (a_0.length : Int))) = true then (if (0 : Int) ≤ x14 ∧ x14 < a_0.length then (if (decide ((40 : Int) < (a_0.length : Int))) = true then law04_light.j1 a_0 x14 true else law04_light.j1 a_0 x14 (decide ((20 : Int) < (((a_0.getD x14.toNat default).f_Parts).length : Int)))) else none) else some (.brk x14))
def law04_light (a_0 : List (S_law04_Ask)) : Option Bool := ((loopN (fun s : Int => law04_light.b1 a_0 s) (((a_0.length : Int) - 0 : Int).toNat + 2) 0).bind fun cr => match cr with | .ret r => some r | .next y55 => some true)
theorem law04_light_ok {a_0 : List (S_law04_Ask)} {r : Bool} (hF : law04_light a_0 = some r) : CallOk Tryd.prog KG 12 [(slVP S_law04_Ask.ck a_0)] [] (fun _ => []) (boolVP r) := by
  refine CallOk.intro 34 Tryd.func12 rfl Tryd.ntmps12 (Nat.le_of_ble_eq_true rfl) ?_
  intro c a w hG hn h
  unfold law04_light at hF
  change SatL c [.slot 0 (slVP S_law04_Ask.ck a_0)] a w at h
  refine wp_seq ?_
  refine region_do (n := 34) [.slot 2 100000 100000 (fun _ _ => (boolVP false))] [0] [⟨[], [], [1], [], some 2⟩] [0] mixed hn hG h (by kernel_rfl) ?_ ?_
  · exact ⟨⟨rfl, fun β => (GOk.plain (op_assign (opc (bc _))) rfl)⟩, trivial⟩
  clear h
  intro β a w h
  change SatL c [.slot 0 (slVP S_law04_Ask.ck a_0)] a w at h
  clear β
  show Code.wp Tryd.prog _ _ a w
  refine wp_seq ?_
  refine wp_seq ?_
  refine region_do (n := 34) [.slot 7 100000 100000 (fun _ _ => (slVP S_law04_Ask.ck a_0)),
      .slot 8 100000 100000 (fun _ _ => (intVP .i64 (a_0.length : Int))),
      .slot 9 100000 100000 (fun _ _ => (intVP .i64 0))] [0, 1, 2] [⟨[0], [], [1], [], some 7⟩, ⟨[1], [], [2], [0], some 8⟩, ⟨[], [], [3], [0, 1], some 9⟩] [0, 1, 2, 3] mixed hn hG h (by kernel_rfl) ?_ ?_
  · exact ⟨⟨rfl, fun β => (GOk.plain (op_move (opt 0 rfl)) rfl)⟩, ⟨rfl, fun β => (GOk.plain (op_len_sl Tryd.underlying29 (opt 0 rfl)) rfl)⟩, ⟨rfl, fun β => (GOk.plain (op_move (opc (ic (by decide)))) rfl)⟩, trivial⟩
  clear h
  intro β a w h
  change SatL c [.slot 0 (slVP S_law04_Ask.ck a_0), .slot 7 (slVP S_law04_Ask.ck a_0), .slot 8 (intVP .i64 (a_0.length : Int)), .slot 9 (intVP .i64 0)] a w at h
  clear β
  show Code.wp Tryd.prog _ _ a w
  refine wp_block ?_
  obtain ⟨cr51, hl52, hF⟩ := bind_some hF
  refine wp_mono (wp_loopN (R := Bool) (S := Int) (fun s a w => SatL c [.slot 0 (slVP S_law04_Ask.ck a_0), .slot 7 (slVP S_law04_Ask.ck a_0), .slot 8 (intVP .i64 (a_0.length : Int)), .slot 9 (intVP .i64 s)] a w) (fun res e a w => match res with | .next s => e = .exit 0 ∧ SatL c [] a w | .ret r => e = .ret ∧ RetOk Tryd.prog Tryd.f12 c (boolVP r) (fun _ => []) a w) ?_ _ 0 _ _ _ (h.sub [0, 1, 2, 3] (by rfl)) hl52) ?_
  · clear hl52 hF h
    intro x14 a w o h hF
    change law04_light.b1 a_0 x14 = some o at hF
    unfold law04_light.b1 at hF
    change SatL c [.slot 0 (slVP S_law04_Ask.ck a_0), .slot 7 (slVP S_law04_Ask.ck a_0), .slot 8 (intVP .i64 (a_0.length : Int)), .slot 9 (intVP .i64 x14)] a w at h
    refine wp_seq ?_
    refine region_do (n := 34) [.slot 10 100000 100000 (fun _ _ => (boolVP (decide (x14 < (a_0.length : Int)))))] [0] [⟨[3, 2], [], [4], [], some 10⟩] [0, 1, 2, 3, 4] mixed hn hG h (by kernel_rfl) ?_ ?_
    · exact ⟨⟨rfl, fun β => (GOk.plain (op_bin bin_lss (opt 0 rfl) (opt 1 rfl)) rfl)⟩, trivial⟩
    clear h
    intro β a w h
    change SatL c [.slot 0 (slVP S_law04_Ask.ck a_0), .slot 7 (slVP S_law04_Ask.ck a_0), .slot 8 (intVP .i64 (a_0.length : Int)), .slot 9 (intVP .i64 x14), .slot 10 (boolVP (decide (x14 < (a_0.length : Int))))] a w at h
    clear β
    show Code.wp Tryd.prog _ _ a w
    refine wp_seq ?_
    refine cond_L h 4 rfl (fun hb29 => ?_) (fun hb29 => ?_)
    · replace hF := tt_of hb29 hF
      replace h := h.sub [0, 1, 2, 3] (by rfl)
      change SatL c [.slot 0 (slVP S_law04_Ask.ck a_0), .slot 7 (slVP S_law04_Ask.ck a_0), .slot 8 (intVP .i64 (a_0.length : Int)), .slot 9 (intVP .i64 x14)] a w at h
      refine wp_skip ?_
      show Code.wp Tryd.prog _ _ a w
      refine wp_seq ?_
      refine wp_block ?_
      refine wp_seq ?_
      obtain ⟨hv30, hF⟩ := ite_some hF
      refine region_do (n := 34) [.slot 11 100000 100000 (fun _ _ => (ppVP [one (intVP .u8 ((a_0.getD x14.toNat default).f_Domain)), one (slVP strC ((a_0.getD x14.toNat default).f_Parts)), one (boolVP ((a_0.getD x14.toNat default).f_Two)), bytesCk 32 ((a_0.getD x14.toNat default).f_A), bytesCk 32 ((a_0.getD x14.toNat default).f_B)])),
      .slot 12 100000 100000 (fun _ _ => (aggVP [one (intVP .u8 ((a_0.getD x14.toNat default).f_Domain)), one (slVP strC ((a_0.getD x14.toNat default).f_Parts)), one (boolVP ((a_0.getD x14.toNat default).f_Two)), bytesCk 32 ((a_0.getD x14.toNat default).f_A), bytesCk 32 ((a_0.getD x14.toNat default).f_B)])),
      .slot 4 2 100000 (fun v1_ _ => (lpVP v1_ 0)),
      .res 2 100000 (fun v1_ _ => (lb (v1_) 26 [one (intVP .u8 ((S_law04_Ask.mk (0 : Int) [] false (List.replicate 32 0) (List.replicate 32 0)).f_Domain)), one (slVP strC ((S_law04_Ask.mk (0 : Int) [] false (List.replicate 32 0) (List.replicate 32 0)).f_Parts)), one (boolVP ((S_law04_Ask.mk (0 : Int) [] false (List.replicate 32 0) (List.replicate 32 0)).f_Two)), bytesCk 32 ((S_law04_Ask.mk (0 : Int) [] false (List.replicate 32 0) (List.replicate 32 0)).f_A), bytesCk 32 ((S_law04_Ask.mk (0 : Int) [] false (List.replicate 32 0) (List.replicate 32 0)).f_B)])),
      .res 2 100000 (fun v1_ _ => (lb (v1_) 26 [one (intVP .u8 ((a_0.getD x14.toNat default).f_Domain)), one (slVP strC ((a_0.getD x14.toNat default).f_Parts)), one (boolVP ((a_0.getD x14.toNat default).f_Two)), bytesCk 32 ((a_0.getD x14.toNat default).f_A), bytesCk 32 ((a_0.getD x14.toNat default).f_B)]))] [0, 1, 2, 2, 3] [⟨[1, 3], [], [4], [], some 11⟩, ⟨[4], [], [5], [0], some 12⟩, ⟨[], [], [6, 7], [0, 1], some 4⟩, ⟨[6, 5], [7], [8], [0, 1, 2], none⟩] [0, 6, 1, 2, 3, 8] mixed hn hG h (by kernel_rfl) ?_ ?_
      · exact ⟨⟨rfl, fun β => (GOk.plain (op_indexAddr_sl Tryd.underlying29 Tryd.sizeOf26 S_law04_Ask.lens (opt 0 rfl) (opt 1 rfl) hv30) rfl)⟩, ⟨rfl, fun β => (GOk.plain (op_load_pp [one (intVP .u8 ((a_0.getD x14.toNat default).f_Domain)), one (slVP strC ((a_0.getD x14.toNat default).f_Parts)), one (boolVP ((a_0.getD x14.toNat default).f_Two)), bytesCk 32 ((a_0.getD x14.toNat default).f_A), bytesCk 32 ((a_0.getD x14.toNat default).f_B)] [] Tryd.isAgg26 Tryd.sizeOf26 (opt 0 rfl) rfl) rfl)⟩, ⟨rfl, fun β => (GOk.plain (op_alloc Tryd.zeroValue26 z26) rfl)⟩, ⟨rfl, fun β => (GOk.plain (op_store_lb [] [one (intVP .u8 ((S_law04_Ask.mk (0 : Int) [] false (List.replicate 32 0) (List.replicate 32 0)).f_Domain)), one (slVP strC ((S_law04_Ask.mk (0 : Int) [] false (List.replicate 32 0) (List.replicate 32 0)).f_Parts)), one (boolVP ((S_law04_Ask.mk (0 : Int) [] false (List.replicate 32 0) (List.replicate 32 0)).f_Two)), bytesCk 32 ((S_law04_Ask.mk (0 : Int) [] false (List.replicate 32 0) (List.replicate 32 0)).f_A), bytesCk 32 ((S_law04_Ask.mk (0 : Int) [] false (List.replicate 32 0) (List.replicate 32 0)).f_B)] [] [one (intVP .u8 ((a_0.getD x14.toNat default).f_Domain)), one (slVP strC ((a_0.getD x14.toNat default).f_Parts)), one (boolVP ((a_0.getD x14.toNat default).f_Two)), bytesCk 32 ((a_0.getD x14.toNat default).f_A), bytesCk 32 ((a_0.getD x14.toNat default).f_B)] Tryd.sizeOf26 (opt 0 rfl) (opt 1 rfl) (cells_agg _) rfl rfl rfl) rfl)⟩, trivial⟩
      clear h
      intro β a w h
      change SatL c [.slot 0 (slVP S_law04_Ask.ck a_0), .slot 4 (lpVP (β 2) 0), .slot 7 (slVP S_law04_Ask.ck a_0), .slot 8 (intVP .i64 (a_0.length : Int)), .slot 9 (intVP .i64 x14), .res (lb (β 2) 26 [one (intVP .u8 ((a_0.getD x14.toNat default).f_Domain)), one (slVP strC ((a_0.getD x14.toNat default).f_Parts)), one (boolVP ((a_0.getD x14.toNat default).f_Two)), bytesCk 32 ((a_0.getD x14.toNat default).f_A), bytesCk 32 ((a_0.getD x14.toNat default).f_B)])] a w at h
      generalize β 2 = p31 at h
      clear β
      show Code.wp Tryd.prog _ _ a w
      refine wp_seq ?_
      refine wp_seq ?_
      refine wp_cut (fun a w => ∃ (x32 : Bool), law04_light.j1 a_0 x14 x32 = some o ∧ SatL c [.slot 0 (slVP S_law04_Ask.ck a_0), .slot 4 (lpVP p31 0), .slot 7 (slVP S_law04_Ask.ck a_0), .slot 8 (intVP .i64 (a_0.length : Int)), .slot 9 (intVP .i64 x14), .slot 21 (boolVP x32), .res (lb p31 26 [one (intVP .u8 ((a_0.getD x14.toNat default).f_Domain)), one (slVP strC ((a_0.getD x14.toNat default).f_Parts)), one (boolVP ((a_0.getD x14.toNat default).f_Two)), bytesCk 32 ((a_0.getD x14.toNat default).f_A), bytesCk 32 ((a_0.getD x14.toNat default).f_B)])] a w) ?_ ?_
      · rcases Bool.eq_false_or_eq_true (decide ((40 : Int) < (a_0.length : Int))) with hb50 | hb50
        · replace hF := tt_of hb50 hF
          refine region_do (n := 34) [.slot 13 100000 100000 (fun _ _ => (slVP S_law04_Ask.ck a_0)),
      .slot 14 100000 100000 (fun _ _ => (intVP .i64 (a_0.length : Int))),
      .slot 15 100000 100000 (fun _ _ => (boolVP (decide ((40 : Int) < (a_0.length : Int))))),
      .slot 16 100000 100000 (fun _ _ => (boolVP (decide ((40 : Int) < (a_0.length : Int))))),
      .slot 17 100000 100000 (fun _ _ => (eqVP undef)),
      .slot 18 100000 100000 (fun _ _ => (eqVP undef)),
      .slot 19 100000 100000 (fun _ _ => (eqVP undef)),
      .slot 20 100000 100000 (fun _ _ => (eqVP undef)),
      .slot 21 100000 100000 (fun _ _ => (boolVP true))] [0, 1, 2, 3, 4, 5, 6, 7, 8] [⟨[0], [], [6], [], some 13⟩, ⟨[6], [], [7], [0], some 14⟩, ⟨[7], [], [8], [0, 1], some 15⟩, ⟨[8], [], [9], [0, 1, 2], some 16⟩, ⟨[9], [], [10], [0, 1, 2, 3], some 17⟩, ⟨[9], [], [11], [0, 1, 2, 3, 4], some 18⟩, ⟨[9], [], [12], [0, 1, 2, 3, 4, 5], some 19⟩, ⟨[9], [], [13], [0, 1, 2, 3, 4, 5, 6], some 20⟩, ⟨[9], [], [14], [0, 1, 2, 3, 4, 5, 6, 7], some 21⟩] [0, 1, 2, 3, 4, 14, 5] mixed hn hG h (by kernel_rfl) ?_ ?_
          · exact ⟨⟨rfl, fun β => (GOk.plain (op_move (opt 0 rfl)) rfl)⟩, ⟨rfl, fun β => (GOk.plain (op_len_sl Tryd.underlying29 (opt 0 rfl)) rfl)⟩, ⟨rfl, fun β => (GOk.plain (op_bin bin_gtr (opt 0 rfl) (opc (ic (by decide)))) rfl)⟩, ⟨rfl, fun β => (GOk.plain (op_move (opt 0 rfl)) rfl)⟩, ⟨rfl, fun β => (GOk.off_v (want := false) hb50 rfl rfl rfl rfl)⟩, ⟨rfl, fun β => (GOk.off_v (want := false) hb50 rfl rfl rfl rfl)⟩, ⟨rfl, fun β => (GOk.off_v (want := false) hb50 rfl rfl rfl rfl)⟩, ⟨rfl, fun β => (GOk.off_v (want := false) hb50 rfl rfl rfl rfl)⟩, ⟨rfl, fun β => (GOk.plain (op_pick_t hb50 (opt 0 rfl) (opc (bc _))) rfl)⟩, trivial⟩
          clear h
          intro β a w h
          change SatL c [.slot 0 (slVP S_law04_Ask.ck a_0), .slot 4 (lpVP p31 0), .slot 7 (slVP S_law04_Ask.ck a_0), .slot 8 (intVP .i64 (a_0.length : Int)), .slot 9 (intVP .i64 x14), .slot 21 (boolVP true), .res (lb p31 26 [one (intVP .u8 ((a_0.getD x14.toNat default).f_Domain)), one (slVP strC ((a_0.getD x14.toNat default).f_Parts)), one (boolVP ((a_0.getD x14.toNat default).f_Two)), bytesCk 32 ((a_0.getD x14.toNat default).f_A), bytesCk 32 ((a_0.getD x14.toNat default).f_B)])] a w at h
          clear β
          exact ⟨true, hF, h.sub [0, 1, 2, 3, 4, 5, 6] (by rfl)⟩
        · replace hF := ff_of hb50 hF
          refine region_do (n := 34) [.slot 13 100000 100000 (fun _ _ => (slVP S_law04_Ask.ck a_0)),
      .slot 14 100000 100000 (fun _ _ => (intVP .i64 (a_0.length : Int))),
      .slot 15 100000 100000 (fun _ _ => (boolVP (decide ((40 : Int) < (a_0.length : Int))))),
      .slot 16 100000 100000 (fun _ _ => (boolVP (decide ((40 : Int) < (a_0.length : Int))))),
      .slot 17 100000 100000 (fun _ _ => (lpVP p31 1)),
      .slot 18 100000 100000 (fun _ _ => (slVP strC ((a_0.getD x14.toNat default).f_Parts))),
      .slot 19 100000 100000 (fun _ _ => (intVP .i64 (((a_0.getD x14.toNat default).f_Parts).length : Int))),
      .slot 20 100000 100000 (fun _ _ => (boolVP (decide ((20 : Int) < (((a_0.getD x14.toNat default).f_Parts).length : Int))))),
      .slot 21 100000 100000 (fun _ _ => (boolVP (decide ((20 : Int) < (((a_0.getD x14.toNat default).f_Parts).length : Int)))))] [0, 1, 2, 3, 4, 5, 6, 7, 8] [⟨[0], [], [6], [], some 13⟩, ⟨[6], [], [7], [0], some 14⟩, ⟨[7], [], [8], [0, 1], some 15⟩, ⟨[8], [], [9], [0, 1, 2], some 16⟩, ⟨[9, 1], [], [10], [0, 1, 2, 3], some 17⟩, ⟨[9, 10, 5], [], [11], [0, 1, 2, 3, 4], some 18⟩, ⟨[9, 11], [], [12], [0, 1, 2, 3, 4, 5], some 19⟩, ⟨[9, 12], [], [13], [0, 1, 2, 3, 4, 5, 6], some 20⟩, ⟨[9, 13], [], [14], [0, 1, 2, 3, 4, 5, 6, 7], some 21⟩] [0, 1, 2, 3, 4, 14, 5] mixed hn hG h (by kernel_rfl) ?_ ?_
          · exact ⟨⟨rfl, fun β => (GOk.plain (op_move (opt 0 rfl)) rfl)⟩, ⟨rfl, fun β => (GOk.plain (op_len_sl Tryd.underlying29 (opt 0 rfl)) rfl)⟩, ⟨rfl, fun β => (GOk.plain (op_bin bin_gtr (opt 0 rfl) (opc (ic (by decide)))) rfl)⟩, ⟨rfl, fun β => (GOk.plain (op_move (opt 0 rfl)) rfl)⟩, ⟨rfl, fun β => (GOk.on_eq hb50 rfl rfl rfl (op_fieldAddr_lbm (p := p31) (n := 1) 0 1 Tryd.underlying26 rfl Tryd.sizeOf22 (by decide) (opt 0 rfl) rfl))⟩, ⟨rfl, fun β => (GOk.on_eq hb50 rfl rfl rfl (op_load_lb1 [one (intVP .u8 ((a_0.getD x14.toNat default).f_Domain))] [one (boolVP ((a_0.getD x14.toNat default).f_Two)), bytesCk 32 ((a_0.getD x14.toNat default).f_A), bytesCk 32 ((a_0.getD x14.toNat default).f_B)] 1 Tryd.isAgg22 (opt 0 rfl) rfl rfl))⟩, ⟨rfl, fun β => (GOk.on_eq hb50 rfl rfl rfl (op_len_sl Tryd.underlying22 (opt 0 rfl)))⟩, ⟨rfl, fun β => (GOk.on_eq hb50 rfl rfl rfl (op_bin bin_gtr (opt 0 rfl) (opc (ic (by decide)))))⟩, ⟨rfl, fun β => (GOk.plain (op_pick_f hb50 (opt 0 rfl) (opt 1 rfl)) rfl)⟩, trivial⟩
          clear h
          intro β a w h
          change SatL c [.slot 0 (slVP S_law04_Ask.ck a_0), .slot 4 (lpVP p31 0), .slot 7 (slVP S_law04_Ask.ck a_0), .slot 8 (intVP .i64 (a_0.length : Int)), .slot 9 (intVP .i64 x14), .slot 21 (boolVP (decide ((20 : Int) < (((a_0.getD x14.toNat default).f_Parts).length : Int)))), .res (lb p31 26 [one (intVP .u8 ((a_0.getD x14.toNat default).f_Domain)), one (slVP strC ((a_0.getD x14.toNat default).f_Parts)), one (boolVP ((a_0.getD x14.toNat default).f_Two)), bytesCk 32 ((a_0.getD x14.toNat default).f_A), bytesCk 32 ((a_0.getD x14.toNat default).f_B)])] a w at h
          clear β
          exact ⟨decide ((20 : Int) < (((a_0.getD x14.toNat default).f_Parts).length : Int)), hF, h.sub [0, 1, 2, 3, 4, 5, 6] (by rfl)⟩
      · clear h hF
        rintro a w ⟨x32, hF, h⟩
        unfold law04_light.j1 at hF
        show Code.wp Tryd.prog _ _ a w
        refine cond_L h 5 rfl (fun hb33 => ?_) (fun hb33 => ?_)
        · replace hF := tt_of hb33 hF
          replace h := h.sub [] (by rfl)
          change SatL c [] a w at h
          refine wp_seq ?_
          refine region_do (n := 34) [.slot 2 100000 100000 (fun _ _ => (boolVP false))] [0] [⟨[], [], [0], [], some 2⟩] [0] mixed hn hG h (by kernel_rfl) ?_ ?_
          · exact ⟨⟨rfl, fun β => (GOk.plain (op_assign (opc (bc _))) rfl)⟩, trivial⟩
          clear h
          intro β a w h
          change SatL c [.slot 2 (boolVP false)] a w at h
          clear β
          show Code.wp Tryd.prog _ _ a w
          refine wp_ret ?_
          obtain rfl := Option.some.inj hF
          exact ⟨ret_ne, rfl, ret1 h Tryd.results12 (r_tmp 0 rfl) [] [] rfl rfl rfl⟩
        · replace hF := ff_of hb33 hF
          replace h := h.sub [0, 1, 2, 3, 4, 6] (by rfl)
          change SatL c [.slot 0 (slVP S_law04_Ask.ck a_0), .slot 4 (lpVP p31 0), .slot 7 (slVP S_law04_Ask.ck a_0), .slot 8 (intVP .i64 (a_0.length : Int)), .slot 9 (intVP .i64 x14), .res (lb p31 26 [one (intVP .u8 ((a_0.getD x14.toNat default).f_Domain)), one (slVP strC ((a_0.getD x14.toNat default).f_Parts)), one (boolVP ((a_0.getD x14.toNat default).f_Two)), bytesCk 32 ((a_0.getD x14.toNat default).f_A), bytesCk 32 ((a_0.getD x14.toNat default).f_B)])] a w at h
          refine wp_skip ?_
          show Code.wp Tryd.prog _ _ a w
          refine wp_seq ?_
          refine region_do (n := 34) [.slot 22 100000 100000 (fun _ _ => (lpVP p31 1)),
      .slot 23 100000 100000 (fun _ _ => (slVP strC ((a_0.getD x14.toNat default).f_Parts))),
      .slot 24 100000 100000 (fun _ _ => (intVP .i64 (((a_0.getD x14.toNat default).f_Parts).length : Int))),
      .slot 25 100000 100000 (fun _ _ => (intVP .i64 0))] [0, 1, 2, 3] [⟨[1], [], [6], [], some 22⟩, ⟨[6, 5], [], [7], [0], some 23⟩, ⟨[7], [], [8], [0, 1], some 24⟩, ⟨[], [], [9], [0, 1, 2], some 25⟩] [0, 2, 3, 4, 7, 8, 9] mixed hn hG h (by kernel_rfl) ?_ ?_
          · exact ⟨⟨rfl, fun β => (GOk.plain (op_fieldAddr_lbm (p := p31) (n := 1) 0 1 Tryd.underlying26 rfl Tryd.sizeOf22 (by decide) (opt 0 rfl) rfl) rfl)⟩, ⟨rfl, fun β => (GOk.plain (op_load_lb1 [one (intVP .u8 ((a_0.getD x14.toNat default).f_Domain))] [one (boolVP ((a_0.getD x14.toNat default).f_Two)), bytesCk 32 ((a_0.getD x14.toNat default).f_A), bytesCk 32 ((a_0.getD x14.toNat default).f_B)] 1 Tryd.isAgg22 (opt 0 rfl) rfl rfl) rfl)⟩, ⟨rfl, fun β => (GOk.plain (op_len_sl Tryd.underlying22 (opt 0 rfl)) rfl)⟩, ⟨rfl, fun β => (GOk.plain (op_move (opc (ic (by decide)))) rfl)⟩, trivial⟩
          clear h
          intro β a w h
          change SatL c [.slot 0 (slVP S_law04_Ask.ck a_0), .slot 7 (slVP S_law04_Ask.ck a_0), .slot 8 (intVP .i64 (a_0.length : Int)), .slot 9 (intVP .i64 x14), .slot 23 (slVP strC ((a_0.getD x14.toNat default).f_Parts)), .slot 24 (intVP .i64 (((a_0.getD x14.toNat default).f_Parts).length : Int)), .slot 25 (intVP .i64 0)] a w at h
          clear β
          show Code.wp Tryd.prog _ _ a w
          refine wp_block ?_
          obtain ⟨cr45, hl46, hF⟩ := bind_some hF
          refine wp_mono (wp_loopN (R := Bool) (S := Int) (fun s a w => SatL c [.slot 0 (slVP S_law04_Ask.ck a_0), .slot 7 (slVP S_law04_Ask.ck a_0), .slot 8 (intVP .i64 (a_0.length : Int)), .slot 9 (intVP .i64 x14), .slot 23 (slVP strC ((a_0.getD x14.toNat default).f_Parts)), .slot 24 (intVP .i64 (((a_0.getD x14.toNat default).f_Parts).length : Int)), .slot 25 (intVP .i64 s)] a w) (fun res e a w => match res with | .next s => e = .exit 2 ∧ SatL c [.slot 0 (slVP S_law04_Ask.ck a_0), .slot 7 (slVP S_law04_Ask.ck a_0), .slot 8 (intVP .i64 (a_0.length : Int)), .slot 9 (intVP .i64 x14)] a w | .ret r => e = .ret ∧ RetOk Tryd.prog Tryd.f12 c (boolVP r) (fun _ => []) a w) ?_ _ 0 _ _ _ (h.sub [0, 1, 2, 3, 4, 5, 6] (by rfl)) hl46) ?_
          · clear hl46 hF h
            intro x37 a w o h hF
            change law04_light.b2 a_0 x14 x37 = some o at hF
            unfold law04_light.b2 at hF
            change SatL c [.slot 0 (slVP S_law04_Ask.ck a_0), .slot 7 (slVP S_law04_Ask.ck a_0), .slot 8 (intVP .i64 (a_0.length : Int)), .slot 9 (intVP .i64 x14), .slot 23 (slVP strC ((a_0.getD x14.toNat default).f_Parts)), .slot 24 (intVP .i64 (((a_0.getD x14.toNat default).f_Parts).length : Int)), .slot 25 (intVP .i64 x37)] a w at h
            refine wp_seq ?_
            refine region_do (n := 34) [.slot 26 100000 100000 (fun _ _ => (boolVP (decide (x37 < (((a_0.getD x14.toNat default).f_Parts).length : Int)))))] [0] [⟨[6, 5], [], [7], [], some 26⟩] [0, 1, 2, 3, 4, 5, 6, 7] mixed hn hG h (by kernel_rfl) ?_ ?_
            · exact ⟨⟨rfl, fun β => (GOk.plain (op_bin bin_lss (opt 0 rfl) (opt 1 rfl)) rfl)⟩, trivial⟩
            clear h
            intro β a w h
            change SatL c [.slot 0 (slVP S_law04_Ask.ck a_0), .slot 7 (slVP S_law04_Ask.ck a_0), .slot 8 (intVP .i64 (a_0.length : Int)), .slot 9 (intVP .i64 x14), .slot 23 (slVP strC ((a_0.getD x14.toNat default).f_Parts)), .slot 24 (intVP .i64 (((a_0.getD x14.toNat default).f_Parts).length : Int)), .slot 25 (intVP .i64 x37), .slot 26 (boolVP (decide (x37 < (((a_0.getD x14.toNat default).f_Parts).length : Int))))] a w at h
            clear β
            show Code.wp Tryd.prog _ _ a w
            refine wp_seq ?_
            refine cond_L h 7 rfl (fun hb42 => ?_) (fun hb42 => ?_)
            · replace hF := tt_of hb42 hF
              replace h := h.sub [0, 1, 2, 3, 4, 5, 6] (by rfl)
              change SatL c [.slot 0 (slVP S_law04_Ask.ck a_0), .slot 7 (slVP S_law04_Ask.ck a_0), .slot 8 (intVP .i64 (a_0.length : Int)), .slot 9 (intVP .i64 x14), .slot 23 (slVP strC ((a_0.getD x14.toNat default).f_Parts)), .slot 24 (intVP .i64 (((a_0.getD x14.toNat default).f_Parts).length : Int)), .slot 25 (intVP .i64 x37)] a w at h
              refine wp_skip ?_
              show Code.wp Tryd.prog _ _ a w
              refine wp_seq ?_
              refine wp_block ?_
              refine wp_seq ?_
              obtain ⟨hv43, hF⟩ := ite_some hF
              refine region_do (n := 34) [.slot 27 100000 100000 (fun _ _ => (ppVP [one (strVP (((a_0.getD x14.toNat default).f_Parts).getD x37.toNat default))])),
      .slot 28 100000 100000 (fun _ _ => (strVP (((a_0.getD x14.toNat default).f_Parts).getD x37.toNat default))),
      .slot 6 100000 100000 (fun _ _ => (strVP (((a_0.getD x14.toNat default).f_Parts).getD x37.toNat default)))] [0, 1, 2] [⟨[4, 6], [], [7], [], some 27⟩, ⟨[7], [], [8], [0], some 28⟩, ⟨[8], [], [9], [0, 1], some 6⟩] [0, 9, 1, 2, 3, 4, 5, 6] mixed hn hG h (by kernel_rfl) ?_ ?_
              · exact ⟨⟨rfl, fun β => (GOk.plain (op_indexAddr_sl Tryd.underlying22 Tryd.sizeOf9 lens_strC (opt 0 rfl) (opt 1 rfl) hv43) rfl)⟩, ⟨rfl, fun β => (GOk.plain (op_load_pp1 [] Tryd.isAgg9 (opt 0 rfl)) rfl)⟩, ⟨rfl, fun β => (GOk.plain (op_assign (opt 0 rfl)) rfl)⟩, trivial⟩
              clear h
              intro β a w h
              change SatL c [.slot 0 (slVP S_law04_Ask.ck a_0), .slot 6 (strVP (((a_0.getD x14.toNat default).f_Parts).getD x37.toNat default)), .slot 7 (slVP S_law04_Ask.ck a_0), .slot 8 (intVP .i64 (a_0.length : Int)), .slot 9 (intVP .i64 x14), .slot 23 (slVP strC ((a_0.getD x14.toNat default).f_Parts)), .slot 24 (intVP .i64 (((a_0.getD x14.toNat default).f_Parts).length : Int)), .slot 25 (intVP .i64 x37)] a w at h
              clear β
              show Code.wp Tryd.prog _ _ a w
              refine wp_seq ?_
              refine region_do (n := 34) [.slot 29 100000 100000 (fun _ _ => (strVP (((a_0.getD x14.toNat default).f_Parts).getD x37.toNat default))),
      .slot 30 100000 100000 (fun _ _ => (intVP .i64 ((((a_0.getD x14.toNat default).f_Parts).getD x37.toNat default).length : Int))),
      .slot 31 100000 100000 (fun _ _ => (boolVP (decide ((1000 : Int) < ((((a_0.getD x14.toNat default).f_Parts).getD x37.toNat default).length : Int)))))] [0, 1, 2] [⟨[1], [], [8], [], some 29⟩, ⟨[8], [], [9], [0], some 30⟩, ⟨[9], [], [10], [0, 1], some 31⟩] [0, 2, 3, 4, 5, 6, 7, 10] mixed hn hG h (by kernel_rfl) ?_ ?_
              · exact ⟨⟨rfl, fun β => (GOk.plain (op_move (opt 0 rfl)) rfl)⟩, ⟨rfl, fun β => (GOk.plain (op_len_str Tryd.underlying9 (opt 0 rfl)) rfl)⟩, ⟨rfl, fun β => (GOk.plain (op_bin bin_gtr (opt 0 rfl) (opc (ic (by decide)))) rfl)⟩, trivial⟩
              clear h
              intro β a w h
              change SatL c [.slot 0 (slVP S_law04_Ask.ck a_0), .slot 7 (slVP S_law04_Ask.ck a_0), .slot 8 (intVP .i64 (a_0.length : Int)), .slot 9 (intVP .i64 x14), .slot 23 (slVP strC ((a_0.getD x14.toNat default).f_Parts)), .slot 24 (intVP .i64 (((a_0.getD x14.toNat default).f_Parts).length : Int)), .slot 25 (intVP .i64 x37), .slot 31 (boolVP (decide ((1000 : Int) < ((((a_0.getD x14.toNat default).f_Parts).getD x37.toNat default).length : Int))))] a w at h
              clear β
              show Code.wp Tryd.prog _ _ a w
              refine cond_L h 7 rfl (fun hb44 => ?_) (fun hb44 => ?_)
              · replace hF := tt_of hb44 hF
                replace h := h.sub [] (by rfl)
                change SatL c [] a w at h
                refine wp_seq ?_
                refine region_do (n := 34) [.slot 2 100000 100000 (fun _ _ => (boolVP false))] [0] [⟨[], [], [0], [], some 2⟩] [0] mixed hn hG h (by kernel_rfl) ?_ ?_
                · exact ⟨⟨rfl, fun β => (GOk.plain (op_assign (opc (bc _))) rfl)⟩, trivial⟩
                clear h
                intro β a w h
                change SatL c [.slot 2 (boolVP false)] a w at h
                clear β
                show Code.wp Tryd.prog _ _ a w
                refine wp_ret ?_
                obtain rfl := Option.some.inj hF
                exact ⟨ret_ne, rfl, ret1 h Tryd.results12 (r_tmp 0 rfl) [] [] rfl rfl rfl⟩
              · replace hF := ff_of hb44 hF
                replace h := h.sub [0, 1, 2, 3, 4, 5, 6] (by rfl)
                change SatL c [.slot 0 (slVP S_law04_Ask.ck a_0), .slot 7 (slVP S_law04_Ask.ck a_0), .slot 8 (intVP .i64 (a_0.length : Int)), .slot 9 (intVP .i64 x14), .slot 23 (slVP strC ((a_0.getD x14.toNat default).f_Parts)), .slot 24 (intVP .i64 (((a_0.getD x14.toNat default).f_Parts).length : Int)), .slot 25 (intVP .i64 x37)] a w at h
                refine wp_skip ?_
                show Code.wp Tryd.prog _ _ a w
                refine region_do (n := 34) [.slot 32 100000 100000 (fun _ _ => (intVP .i64 (IntKind.wrap .i64 (x37 + 1)))),
      .slot 25 100000 100000 (fun _ _ => (intVP .i64 (IntKind.wrap .i64 (x37 + 1))))] [0, 1] [⟨[6], [], [7], [], some 32⟩, ⟨[7], [6], [8], [0], some 25⟩] [0, 1, 2, 3, 4, 5, 8] mixed hn hG h (by kernel_rfl) ?_ ?_
                · exact ⟨⟨rfl, fun β => (GOk.plain (op_bin bin_add (opt 0 rfl) (opc (ic (by decide)))) rfl)⟩, ⟨rfl, fun β => (GOk.drop _ (GOk.plain (op_move (opt 0 rfl)) rfl))⟩, trivial⟩
                clear h
                intro β a w h
                change SatL c [.slot 0 (slVP S_law04_Ask.ck a_0), .slot 7 (slVP S_law04_Ask.ck a_0), .slot 8 (intVP .i64 (a_0.length : Int)), .slot 9 (intVP .i64 x14), .slot 23 (slVP strC ((a_0.getD x14.toNat default).f_Parts)), .slot 24 (intVP .i64 (((a_0.getD x14.toNat default).f_Parts).length : Int)), .slot 25 (intVP .i64 (IntKind.wrap .i64 (x37 + 1)))] a w at h
                clear β
                obtain rfl := Option.some.inj hF
                exact ⟨rfl, h.sub [0, 1, 2, 3, 4, 5, 6] (by rfl)⟩
            · replace hF := ff_of hb42 hF
              replace h := h.sub [0, 1, 2, 3, 4, 5, 6] (by rfl)
              change SatL c [.slot 0 (slVP S_law04_Ask.ck a_0), .slot 7 (slVP S_law04_Ask.ck a_0), .slot 8 (intVP .i64 (a_0.length : Int)), .slot 9 (intVP .i64 x14), .slot 23 (slVP strC ((a_0.getD x14.toNat default).f_Parts)), .slot 24 (intVP .i64 (((a_0.getD x14.toNat default).f_Parts).length : Int)), .slot 25 (intVP .i64 x37)] a w at h
              refine wp_exit ?_
              obtain rfl := Option.some.inj hF
              exact ⟨exit_ne _, rfl, h.sub [0, 1, 2, 3] (by rfl)⟩
          · clear hl46
            intro e a w hq
            cases cr45 with
            | ret r47 =>
              obtain ⟨rfl, hq⟩ := hq
              obtain rfl := Option.some.inj hF
              exact ⟨ret_ne, rfl, hq⟩
            | next y49 =>
              obtain ⟨rfl, h⟩ := hq
              change SatL c [.slot 0 (slVP S_law04_Ask.ck a_0), .slot 7 (slVP S_law04_Ask.ck a_0), .slot 8 (intVP .i64 (a_0.length : Int)), .slot 9 (intVP .i64 x14)] a w at h
              refine inBlock_at ?_
              show Code.wp Tryd.prog _ _ a w
              refine region_do (n := 34) [.slot 33 100000 100000 (fun _ _ => (intVP .i64 (IntKind.wrap .i64 (x14 + 1)))),
      .slot 9 100000 100000 (fun _ _ => (intVP .i64 (IntKind.wrap .i64 (x14 + 1))))] [0, 1] [⟨[3], [], [4], [], some 33⟩, ⟨[4], [3], [5], [0], some 9⟩] [0, 1, 2, 5] mixed hn hG h (by kernel_rfl) ?_ ?_
              · exact ⟨⟨rfl, fun β => (GOk.plain (op_bin bin_add (opt 0 rfl) (opc (ic (by decide)))) rfl)⟩, ⟨rfl, fun β => (GOk.drop _ (GOk.plain (op_move (opt 0 rfl)) rfl))⟩, trivial⟩
              clear h
              intro β a w h
              change SatL c [.slot 0 (slVP S_law04_Ask.ck a_0), .slot 7 (slVP S_law04_Ask.ck a_0), .slot 8 (intVP .i64 (a_0.length : Int)), .slot 9 (intVP .i64 (IntKind.wrap .i64 (x14 + 1)))] a w at h
              clear β
              obtain rfl := Option.some.inj hF
              exact ⟨rfl, h.sub [0, 1, 2, 3] (by rfl)⟩
    · replace hF := ff_of hb29 hF
      replace h := h.sub [0, 1, 2, 3] (by rfl)
      change SatL c [.slot 0 (slVP S_law04_Ask.ck a_0), .slot 7 (slVP S_law04_Ask.ck a_0), .slot 8 (intVP .i64 (a_0.length : Int)), .slot 9 (intVP .i64 x14)] a w at h
      refine wp_exit ?_
      obtain rfl := Option.some.inj hF
      exact ⟨exit_ne _, rfl, h.sub [] (by rfl)⟩
  · clear hl52
    intro e a w hq
    cases cr51 with
    | ret r53 =>
      obtain ⟨rfl, hq⟩ := hq
      obtain rfl := Option.some.inj hF
      exact ⟨.inl rfl, hq⟩
    | next y55 =>
      obtain ⟨rfl, h⟩ := hq
      change SatL c [] a w at h
      refine inBlock_at ?_
      show Code.wp Tryd.prog _ _ a w
      refine wp_seq ?_
      refine region_do (n := 34) [.slot 2 100000 100000 (fun _ _ => (boolVP true))] [0] [⟨[], [], [0], [], some 2⟩] [0] mixed hn hG h (by kernel_rfl) ?_ ?_
      · exact ⟨⟨rfl, fun β => (GOk.plain (op_assign (opc (bc _))) rfl)⟩, trivial⟩
      clear h
      intro β a w h
      change SatL c [.slot 2 (boolVP true)] a w at h
      clear β
      show Code.wp Tryd.prog _ _ a w
      refine wp_ret ?_
      obtain rfl := Option.some.inj hF
      exact ⟨.inl rfl, ret1 h Tryd.results12 (r_tmp 0 rfl) [] [] rfl rfl rfl⟩

def ref03_Bytes (a_0 : List UInt8) : Option (List UInt8) := some (a_0.take ((32 : Int).toNat - (0 : Int).toNat))
theorem ref03_Bytes_ok {a_0 : List UInt8} {r : (List UInt8)} (hF : ref03_Bytes a_0 = some r) : CallOk Tryd.prog KG 42 [(aggVP [bytesCk 32 a_0])] [] (fun _ => []) (strVP r) := by
  refine CallOk.intro 5 Tryd.func42 rfl Tryd.ntmps42 (Nat.le_of_ble_eq_true rfl) ?_
  intro c a w hG hn h
  unfold ref03_Bytes at hF
  change SatL c [.slot 0 (aggVP [bytesCk 32 a_0])] a w at h
  refine wp_seq ?_
  refine region_do (n := 5) [.slot 1 0 100000 (fun v1_ _ => (lpVP v1_ 0)),
      .res 0 100000 (fun v1_ _ => (lb (v1_) 24 [bytesCk 32 a_0])),
      .slot 2 100000 100000 (fun _ _ => (strVP []))] [0, 0, 1] [⟨[0], [], [1, 2], [], some 1⟩, ⟨[], [], [3], [0], some 2⟩] [1, 2] mixed hn hG h (by kernel_rfl) ?_ ?_
  · exact ⟨⟨rfl, fun β => (GOk.plain (op_box (opt 0 rfl) (cells_agg _)) rfl)⟩, ⟨rfl, fun β => (GOk.plain (op_assign (opc (sc _ (by decide)))) rfl)⟩, trivial⟩
  clear h
  intro β a w h
  change SatL c [.slot 1 (lpVP (β 0) 0), .res (lb (β 0) 24 [bytesCk 32 a_0])] a w at h
  generalize β 0 = p1 at h
  clear β
  show Code.wp Tryd.prog _ _ a w
  refine wp_seq ?_
  refine region_do (n := 5) [.slot 3 100000 100000 (fun _ _ => (lslVP p1 (0 + (0 : Int).toNat * 1) ((32 : Int).toNat - (0 : Int).toNat) (32 - (0 : Int).toNat))),
      .slot 4 100000 100000 (fun _ _ => (strVP (a_0.take ((32 : Int).toNat - (0 : Int).toNat)))),
      .slot 2 100000 100000 (fun _ _ => (strVP (a_0.take ((32 : Int).toNat - (0 : Int).toNat))))] [0, 1, 2] [⟨[0], [], [2], [], some 3⟩, ⟨[2, 1], [], [3], [0], some 4⟩, ⟨[3], [], [4], [0, 1], some 2⟩] [4] mixed hn hG h (by kernel_rfl) ?_ ?_
  · exact ⟨⟨rfl, fun β => (GOk.plain (op_slice_lb (a := 0) (b := 32) Tryd.underlying24 Tryd.sizeOf5 (opt 0 rfl) rfl rfl (by decide)) rfl)⟩, ⟨rfl, fun β => (GOk.plain (op_str_lsl [] [] 1 Tryd.underlying79 Tryd.underlying5 Tryd.underlying9 (opt 0 rfl) rfl rfl (by decide) (by decide)) rfl)⟩, ⟨rfl, fun β => (GOk.plain (op_assign (opt 0 rfl)) rfl)⟩, trivial⟩
  clear h
  intro β a w h
  change SatL c [.slot 2 (strVP (a_0.take ((32 : Int).toNat - (0 : Int).toNat)))] a w at h
  clear β
  show Code.wp Tryd.prog _ _ a w
  refine wp_ret ?_
  obtain rfl := Option.some.inj hF
  exact ⟨.inl rfl, ret1 h Tryd.results42 (r_tmp 0 rfl) [] [] rfl rfl rfl⟩

def ref03_Big.b1 (x4 : Int) (x5 : Int) (x6 : List UInt8) : Option (Flow (List UInt8) (Int × Int × (List UInt8))) := (if (decide ((0 : Int) ≤ x5)) = true then (if (0 : Int) ≤ x5 ∧ x5 < 8 then some (.cont (IntKind.wrap .u64 (x4.tdiv 256), IntKind.wrap .i64 (x5 - 1), x6.set x5.toNat (u8of (IntKind.wrap .u8 (x4.tmod 256))))) else none) else some (.brk (x4, x5, x6)))
def ref03_Big (a_0 : Int) (a_1 : Int) : Option (List UInt8) := ((loopN (fun s : Int × Int × (List UInt8) => ref03_Big.b1 s.1 s.2.1 s.2.2) (((IntKind.wrap .i64 (a_1 - 1)) - 0 : Int).toNat + 2) (a_0, IntKind.wrap .i64 (a_1 - 1), (List.replicate 8 0))).bind fun cr => match cr with | .ret r => some r | .next (y18, y19, y20) => (if (0 : Int) ≤ 0 ∧ (0 : Int) ≤ a_1 ∧ a_1 ≤ 8 ∧ (0 : Int) < 8 then (if (a_1 : Int).toNat - (0 : Int).toNat ≤ 8 then some (y20.take ((a_1 : Int).toNat - (0 : Int).toNat)) else none) else none))
theorem ref03_Big_ok {a_0 : Int} {a_1 : Int} {r : (List UInt8)} (hF : ref03_Big a_0 a_1 = some r) : CallOk Tryd.prog KG 49 [(intVP .u64 a_0), (intVP .i64 a_1)] [] (fun _ => []) (strVP r) := by
  refine CallOk.intro 23 Tryd.func49 rfl Tryd.ntmps49 (Nat.le_of_ble_eq_true rfl) ?_
  intro c a w hG hn h
  unfold ref03_Big at hF
  change SatL c [.slot 0 (intVP .u64 a_0), .slot 1 (intVP .i64 a_1)] a w at h
  refine wp_seq ?_
  refine region_do (n := 23) [.slot 4 100000 100000 (fun _ _ => (strVP []))] [0] [⟨[], [], [2], [], some 4⟩] [0, 1] mixed hn hG h (by kernel_rfl) ?_ ?_
  · exact ⟨⟨rfl, fun β => (GOk.plain (op_assign (opc (sc _ (by decide)))) rfl)⟩, trivial⟩
  clear h
  intro β a w h
  change SatL c [.slot 0 (intVP .u64 a_0), .slot 1 (intVP .i64 a_1)] a w at h
  clear β
  show Code.wp Tryd.prog _ _ a w
  refine wp_seq ?_
  refine region_do (n := 23) [.slot 5 0 100000 (fun v1_ _ => (lpVP v1_ 0)),
      .res 0 100000 (fun v1_ _ => (lb (v1_) 106 [bytesCk 8 (List.replicate 8 0)]))] [0, 0] [⟨[], [], [2, 3], [], some 5⟩] [0, 1, 2, 3] mixed hn hG h (by kernel_rfl) ?_ ?_
  · exact ⟨⟨rfl, fun β => (GOk.plain (op_alloc Tryd.zeroValue106 z106) rfl)⟩, trivial⟩
  clear h
  intro β a w h
  change SatL c [.slot 0 (intVP .u64 a_0), .slot 1 (intVP .i64 a_1), .slot 5 (lpVP (β 0) 0), .res (lb (β 0) 106 [bytesCk 8 (List.replicate 8 0)])] a w at h
  generalize β 0 = p1 at h
  clear β
  show Code.wp Tryd.prog _ _ a w
  refine wp_seq ?_
  refine wp_seq ?_
  refine region_do (n := 23) [.slot 7 100000 100000 (fun _ _ => (intVP .i64 a_1)),
      .slot 8 100000 100000 (fun _ _ => (intVP .i64 (IntKind.wrap .i64 (a_1 - 1)))),
      .slot 6 100000 100000 (fun _ _ => (intVP .i64 (IntKind.wrap .i64 (a_1 - 1))))] [0, 1, 2] [⟨[1], [], [4], [], some 7⟩, ⟨[4], [], [5], [0], some 8⟩, ⟨[5], [], [6], [0, 1], some 6⟩] [0, 1, 2, 6, 3] mixed hn hG h (by kernel_rfl) ?_ ?_
  · exact ⟨⟨rfl, fun β => (GOk.plain (op_move (opt 0 rfl)) rfl)⟩, ⟨rfl, fun β => (GOk.plain (op_bin bin_sub (opt 0 rfl) (opc (ic (by decide)))) rfl)⟩, ⟨rfl, fun β => (GOk.plain (op_assign (opt 0 rfl)) rfl)⟩, trivial⟩
  clear h
  intro β a w h
  change SatL c [.slot 0 (intVP .u64 a_0), .slot 1 (intVP .i64 a_1), .slot 5 (lpVP p1 0), .slot 6 (intVP .i64 (IntKind.wrap .i64 (a_1 - 1))), .res (lb p1 106 [bytesCk 8 (List.replicate 8 0)])] a w at h
  clear β
  show Code.wp Tryd.prog _ _ a w
  refine wp_block ?_
  obtain ⟨cr14, hl15, hF⟩ := bind_some hF
  refine wp_mono (wp_loopN (R := (List UInt8)) (S := Int × Int × (List UInt8)) (fun s a w => SatL c [.slot 0 (intVP .u64 s.1), .slot 1 (intVP .i64 a_1), .slot 5 (lpVP p1 0), .slot 6 (intVP .i64 s.2.1), .res (lb p1 106 [bytesCk 8 s.2.2])] a w) (fun res e a w => match res with | .next s => e = .exit 0 ∧ SatL c [.slot 1 (intVP .i64 a_1), .slot 5 (lpVP p1 0), .res (lb p1 106 [bytesCk 8 s.2.2])] a w | .ret r => e = .ret ∧ RetOk Tryd.prog Tryd.f49 c (strVP r) (fun _ => []) a w) ?_ _ (a_0, IntKind.wrap .i64 (a_1 - 1), (List.replicate 8 0)) _ _ _ (h.sub [0, 1, 2, 3, 4] (by rfl)) hl15) ?_
  · clear hl15 hF h
    intro s a w o h hF
    obtain ⟨x4, x5, x6⟩ := s
    change ref03_Big.b1 x4 x5 x6 = some o at hF
    unfold ref03_Big.b1 at hF
    change SatL c [.slot 0 (intVP .u64 x4), .slot 1 (intVP .i64 a_1), .slot 5 (lpVP p1 0), .slot 6 (intVP .i64 x5), .res (lb p1 106 [bytesCk 8 x6])] a w at h
    refine wp_seq ?_
    refine wp_seq ?_
    refine region_do (n := 23) [.slot 9 100000 100000 (fun _ _ => (intVP .i64 x5)),
      .slot 10 100000 100000 (fun _ _ => (boolVP (decide ((0 : Int) ≤ x5))))] [0, 1] [⟨[3], [], [5], [], some 9⟩, ⟨[5], [], [6], [0], some 10⟩] [0, 1, 2, 3, 6, 4] mixed hn hG h (by kernel_rfl) ?_ ?_
    · exact ⟨⟨rfl, fun β => (GOk.plain (op_move (opt 0 rfl)) rfl)⟩, ⟨rfl, fun β => (GOk.plain (op_bin bin_geq (opt 0 rfl) (opc (ic (by decide)))) rfl)⟩, trivial⟩
    clear h
    intro β a w h
    change SatL c [.slot 0 (intVP .u64 x4), .slot 1 (intVP .i64 a_1), .slot 5 (lpVP p1 0), .slot 6 (intVP .i64 x5), .slot 10 (boolVP (decide ((0 : Int) ≤ x5))), .res (lb p1 106 [bytesCk 8 x6])] a w at h
    clear β
    show Code.wp Tryd.prog _ _ a w
    refine cond_L h 4 rfl (fun hb12 => ?_) (fun hb12 => ?_)
    · replace hF := tt_of hb12 hF
      replace h := h.sub [0, 1, 2, 3, 5] (by rfl)
      change SatL c [.slot 0 (intVP .u64 x4), .slot 1 (intVP .i64 a_1), .slot 5 (lpVP p1 0), .slot 6 (intVP .i64 x5), .res (lb p1 106 [bytesCk 8 x6])] a w at h
      refine wp_skip ?_
      show Code.wp Tryd.prog _ _ a w
      refine wp_seq ?_
      refine wp_block ?_
      refine wp_seq ?_
      obtain ⟨hv13, hF⟩ := ite_some hF
      refine region_do (n := 23) [.slot 13 100000 100000 (fun _ _ => (intVP .i64 x5)),
      .slot 14 100000 100000 (fun _ _ => (intVP .u64 x4)),
      .slot 15 100000 100000 (fun _ _ => (intVP .u64 (x4.tmod 256))),
      .slot 16 100000 100000 (fun _ _ => (intVP .u8 (IntKind.wrap .u8 (x4.tmod 256)))),
      .slot 17 100000 100000 (fun _ _ => (lpVP p1 (0 + x5.toNat * 1))),
      .res 100000 100000 (fun _ _ => (lb p1 106 [bytesCk 8 (x6.set x5.toNat (u8of (IntKind.wrap .u8 (x4.tmod 256))))]))] [0, 1, 2, 3, 4, 5] [⟨[3], [], [5], [], some 13⟩, ⟨[0], [], [6], [0], some 14⟩, ⟨[6], [], [7], [0, 1], some 15⟩, ⟨[7], [], [8], [0, 1, 2], some 16⟩, ⟨[2, 5], [], [9], [0, 1, 2, 3], some 17⟩, ⟨[9, 8], [4], [10], [0, 1, 2, 3, 4], none⟩] [0, 1, 2, 3, 10] mixed hn hG h (by kernel_rfl) ?_ ?_
      · exact ⟨⟨rfl, fun β => (GOk.plain (op_move (opt 0 rfl)) rfl)⟩, ⟨rfl, fun β => (GOk.plain (op_move (opt 0 rfl)) rfl)⟩, ⟨rfl, fun β => (GOk.plain (op_bin (bin_rem (by decide)) (opt 0 rfl) (opc (ic (by decide)))) rfl)⟩, ⟨rfl, fun β => (GOk.plain (op_convert_int Tryd.underlying84 Tryd.underlying5 (opt 0 rfl)) rfl)⟩, ⟨rfl, fun β => (GOk.plain (op_indexAddr_lb Tryd.underlying106 Tryd.sizeOf5 (opt 0 rfl) (opt 1 rfl) hv13) rfl)⟩, ⟨rfl, fun β => (GOk.plain (op_store_lbB (i := x5) [] [] Tryd.sizeOf5 (opt 0 rfl) (opt 1 rfl) rfl hv13) rfl)⟩, trivial⟩
      clear h
      intro β a w h
      change SatL c [.slot 0 (intVP .u64 x4), .slot 1 (intVP .i64 a_1), .slot 5 (lpVP p1 0), .slot 6 (intVP .i64 x5), .res (lb p1 106 [bytesCk 8 (x6.set x5.toNat (u8of (IntKind.wrap .u8 (x4.tmod 256))))])] a w at h
      clear β
      show Code.wp Tryd.prog _ _ a w
      refine region_do (n := 23) [.slot 18 100000 100000 (fun _ _ => (intVP .u64 x4)),
      .slot 19 100000 100000 (fun _ _ => (intVP .u64 (IntKind.wrap .u64 (x4.tdiv 256)))),
      .slot 0 100000 100000 (fun _ _ => (intVP .u64 (IntKind.wrap .u64 (x4.tdiv 256))))] [0, 1, 2] [⟨[0], [], [5], [], some 18⟩, ⟨[5], [], [6], [0], some 19⟩, ⟨[6], [0], [7], [0, 1], some 0⟩] [7, 1, 2, 3, 4] mixed hn hG h (by kernel_rfl) ?_ ?_
      · exact ⟨⟨rfl, fun β => (GOk.plain (op_move (opt 0 rfl)) rfl)⟩, ⟨rfl, fun β => (GOk.plain (op_bin (bin_quo (by decide)) (opt 0 rfl) (opc (ic (by decide)))) rfl)⟩, ⟨rfl, fun β => (GOk.drop _ (GOk.plain (op_assign (opt 0 rfl)) rfl))⟩, trivial⟩
      clear h
      intro β a w h
      change SatL c [.slot 0 (intVP .u64 (IntKind.wrap .u64 (x4.tdiv 256))), .slot 1 (intVP .i64 a_1), .slot 5 (lpVP p1 0), .slot 6 (intVP .i64 x5), .res (lb p1 106 [bytesCk 8 (x6.set x5.toNat (u8of (IntKind.wrap .u8 (x4.tmod 256))))])] a w at h
      clear β
      show Code.wp Tryd.prog _ _ a w
      refine region_do (n := 23) [.slot 11 100000 100000 (fun _ _ => (intVP .i64 x5)),
      .slot 12 100000 100000 (fun _ _ => (intVP .i64 (IntKind.wrap .i64 (x5 - 1)))),
      .slot 6 100000 100000 (fun _ _ => (intVP .i64 (IntKind.wrap .i64 (x5 - 1))))] [0, 1, 2] [⟨[3], [], [5], [], some 11⟩, ⟨[5], [], [6], [0], some 12⟩, ⟨[6], [3], [7], [0, 1], some 6⟩] [0, 1, 2, 7, 4] mixed hn hG h (by kernel_rfl) ?_ ?_
      · exact ⟨⟨rfl, fun β => (GOk.plain (op_move (opt 0 rfl)) rfl)⟩, ⟨rfl, fun β => (GOk.plain (op_bin bin_sub (opt 0 rfl) (opc (ic (by decide)))) rfl)⟩, ⟨rfl, fun β => (GOk.drop _ (GOk.plain (op_assign (opt 0 rfl)) rfl))⟩, trivial⟩
      clear h
      intro β a w h
      change SatL c [.slot 0 (intVP .u64 (IntKind.wrap .u64 (x4.tdiv 256))), .slot 1 (intVP .i64 a_1), .slot 5 (lpVP p1 0), .slot 6 (intVP .i64 (IntKind.wrap .i64 (x5 - 1))), .res (lb p1 106 [bytesCk 8 (x6.set x5.toNat (u8of (IntKind.wrap .u8 (x4.tmod 256))))])] a w at h
      clear β
      obtain rfl := Option.some.inj hF
      exact ⟨rfl, h.sub [0, 1, 2, 3, 4] (by rfl)⟩
    · replace hF := ff_of hb12 hF
      replace h := h.sub [0, 1, 2, 3, 5] (by rfl)
      change SatL c [.slot 0 (intVP .u64 x4), .slot 1 (intVP .i64 a_1), .slot 5 (lpVP p1 0), .slot 6 (intVP .i64 x5), .res (lb p1 106 [bytesCk 8 x6])] a w at h
      refine wp_exit ?_
      obtain rfl := Option.some.inj hF
      exact ⟨exit_ne _, rfl, h.sub [1, 2, 4] (by rfl)⟩
  · clear hl15
    intro e a w hq
    cases cr14 with
    | ret r16 =>
      obtain ⟨rfl, hq⟩ := hq
      obtain rfl := Option.some.inj hF
      exact ⟨.inl rfl, hq⟩
    | next s17 =>
      obtain ⟨y18, y19, y20⟩ := s17
      obtain ⟨rfl, h⟩ := hq
      change SatL c [.slot 1 (intVP .i64 a_1), .slot 5 (lpVP p1 0), .res (lb p1 106 [bytesCk 8 y20])] a w at h
      refine inBlock_at ?_
      show Code.wp Tryd.prog _ _ a w
      refine wp_seq ?_
      obtain ⟨hv21, hF⟩ := ite_some hF
      obtain ⟨hv22, hF⟩ := ite_some hF
      refine region_do (n := 23) [.slot 20 100000 100000 (fun _ _ => (intVP .i64 a_1)),
      .slot 21 100000 100000 (fun _ _ => (lslVP p1 (0 + (0 : Int).toNat * 1) ((a_1 : Int).toNat - (0 : Int).toNat) (8 - (0 : Int).toNat))),
      .slot 22 100000 100000 (fun _ _ => (strVP (y20.take ((a_1 : Int).toNat - (0 : Int).toNat)))),
      .slot 4 100000 100000 (fun _ _ => (strVP (y20.take ((a_1 : Int).toNat - (0 : Int).toNat))))] [0, 1, 2, 3] [⟨[0], [], [3], [], some 20⟩, ⟨[1, 3], [], [4], [0], some 21⟩, ⟨[4, 2], [], [5], [0, 1], some 22⟩, ⟨[5], [], [6], [0, 1, 2], some 4⟩] [6] mixed hn hG h (by kernel_rfl) ?_ ?_
      · exact ⟨⟨rfl, fun β => (GOk.plain (op_move (opt 0 rfl)) rfl)⟩, ⟨rfl, fun β => (GOk.plain (op_slice_lb (a := 0) (b := a_1) Tryd.underlying106 Tryd.sizeOf5 (opt 0 rfl) rfl ⟨_, (opt 1 rfl)⟩ hv21) rfl)⟩, ⟨rfl, fun β => (GOk.plain (op_str_lsl [] [] 1 Tryd.underlying79 Tryd.underlying5 Tryd.underlying9 (opt 0 rfl) rfl rfl hv22 (by decide)) rfl)⟩, ⟨rfl, fun β => (GOk.plain (op_assign (opt 0 rfl)) rfl)⟩, trivial⟩
      clear h
      intro β a w h
      change SatL c [.slot 4 (strVP (y20.take ((a_1 : Int).toNat - (0 : Int).toNat)))] a w at h
      clear β
      show Code.wp Tryd.prog _ _ a w
      refine wp_ret ?_
      obtain rfl := Option.some.inj hF
      exact ⟨.inl rfl, ret1 h Tryd.results49 (r_tmp 0 rfl) [] [] rfl rfl rfl⟩

def ref03_Text (a_0 : List UInt8) : Option (List UInt8) := ((ref03_Big (IntKind.wrap .u64 (a_0.length : Int)) 4).bind fun r1 => (if r1.length + a_0.length ≤ mxl then some (r1 ++ a_0) else none))
theorem ref03_Text_ok {a_0 : List UInt8} {r : (List UInt8)} (hF : ref03_Text a_0 = some r) : CallOk Tryd.prog KG 57 [(strVP a_0)] [] (fun _ => []) (strVP r) := by
  refine CallOk.intro 9 Tryd.func57 rfl Tryd.ntmps57 (Nat.le_of_ble_eq_true rfl) ?_
  intro c a w hG hn h
  unfold ref03_Text at hF
  change SatL c [.slot 0 (strVP a_0)] a w at h
  refine wp_seq ?_
  refine region_do (n := 9) [.slot 2 100000 100000 (fun _ _ => (strVP []))] [0] [⟨[], [], [1], [], some 2⟩] [0] mixed hn hG h (by kernel_rfl) ?_ ?_
  · exact ⟨⟨rfl, fun β => (GOk.plain (op_assign (opc (sc _ (by decide)))) rfl)⟩, trivial⟩
  clear h
  intro β a w h
  change SatL c [.slot 0 (strVP a_0)] a w at h
  clear β
  show Code.wp Tryd.prog _ _ a w
  refine wp_seq ?_
  obtain ⟨r1, hr1, hF⟩ := bind_some hF
  obtain ⟨hv2, hF⟩ := ite_some hF
  refine region_do (n := 9) [.slot 3 100000 100000 (fun _ _ => (strVP a_0)),
      .slot 4 100000 100000 (fun _ _ => (intVP .i64 (a_0.length : Int))),
      .slot 5 100000 100000 (fun _ _ => (intVP .u64 (IntKind.wrap .u64 (a_0.length : Int)))),
      .slot 6 100000 100000 (fun _ _ => (strVP r1)),
      .slot 7 100000 100000 (fun _ _ => (strVP a_0)),
      .slot 8 100000 100000 (fun _ _ => (strVP (r1 ++ a_0))),
      .slot 2 100000 100000 (fun _ _ => (strVP (r1 ++ a_0)))] [0, 1, 2, 3, 4, 5, 6] [⟨[0], [], [1], [], some 3⟩, ⟨[1], [], [2], [0], some 4⟩, ⟨[2], [], [3], [0, 1], some 5⟩, ⟨[3], [], [4], [0, 1, 2], some 6⟩, ⟨[0], [], [5], [0, 1, 2, 3], some 7⟩, ⟨[4, 5], [], [6], [0, 1, 2, 3, 4], some 8⟩, ⟨[6], [], [7], [0, 1, 2, 3, 4, 5], some 2⟩] [7] mixed hn hG h (by kernel_rfl) ?_ ?_
  · exact ⟨⟨rfl, fun β => (GOk.plain (op_move (opt 0 rfl)) rfl)⟩, ⟨rfl, fun β => (GOk.plain (op_len_str Tryd.underlying9 (opt 0 rfl)) rfl)⟩, ⟨rfl, fun β => (GOk.plain (op_convert_int Tryd.underlying3 Tryd.underlying84 (opt 0 rfl)) rfl)⟩, ⟨rfl, fun β => (GOk.plain (op_call Tryd.call49 (ref03_Big_ok hr1) ⟨(opt 0 rfl), (opc (ic (by decide))), trivial⟩) rfl)⟩, ⟨rfl, fun β => (GOk.plain (op_move (opt 0 rfl)) rfl)⟩, ⟨rfl, fun β => (GOk.plain (op_bin (bin_sadd hv2) (opt 0 rfl) (opt 1 rfl)) rfl)⟩, ⟨rfl, fun β => (GOk.plain (op_assign (opt 0 rfl)) rfl)⟩, trivial⟩
  clear h
  intro β a w h
  change SatL c [.slot 2 (strVP (r1 ++ a_0))] a w at h
  clear β
  show Code.wp Tryd.prog _ _ a w
  refine wp_ret ?_
  obtain rfl := Option.some.inj hF
  exact ⟨.inl rfl, ret1 h Tryd.results57 (r_tmp 0 rfl) [] [] rfl rfl rfl⟩

def ref01_turn (a_0 : Int) (a_1 : Int) : Option Int := some (bits .or .u32 (shr .u32 a_0 a_1) (shl .u32 a_0 (IntKind.wrap .u64 (32 - a_1))))
theorem ref01_turn_ok {a_0 : Int} {a_1 : Int} {r : Int} (hF : ref01_turn a_0 a_1 = some r) : CallOk Tryd.prog KG 75 [(intVP .u32 a_0), (intVP .u64 a_1)] [] (fun _ => []) (intVP .u32 r) := by
  refine CallOk.intro 13 Tryd.func75 rfl Tryd.ntmps75 (Nat.le_of_ble_eq_true rfl) ?_
  intro c a w hG hn h
  unfold ref01_turn at hF
  change SatL c [.slot 0 (intVP .u32 a_0), .slot 1 (intVP .u64 a_1)] a w at h
  refine wp_seq ?_
  refine region_do (n := 13) [.slot 4 100000 100000 (fun _ _ => (intVP .u32 0))] [0] [⟨[], [], [2], [], some 4⟩] [0, 1] mixed hn hG h (by kernel_rfl) ?_ ?_
  · exact ⟨⟨rfl, fun β => (GOk.plain (op_assign (opc (ic (by decide)))) rfl)⟩, trivial⟩
  clear h
  intro β a w h
  change SatL c [.slot 0 (intVP .u32 a_0), .slot 1 (intVP .u64 a_1)] a w at h
  clear β
  show Code.wp Tryd.prog _ _ a w
  refine wp_seq ?_
  refine region_do (n := 13) [.slot 5 100000 100000 (fun _ _ => (intVP .u32 a_0)),
      .slot 6 100000 100000 (fun _ _ => (intVP .u64 a_1)),
      .slot 7 100000 100000 (fun _ _ => (intVP .u32 (shr .u32 a_0 a_1))),
      .slot 8 100000 100000 (fun _ _ => (intVP .u32 a_0)),
      .slot 9 100000 100000 (fun _ _ => (intVP .u64 a_1)),
      .slot 10 100000 100000 (fun _ _ => (intVP .u64 (IntKind.wrap .u64 (32 - a_1)))),
      .slot 11 100000 100000 (fun _ _ => (intVP .u32 (shl .u32 a_0 (IntKind.wrap .u64 (32 - a_1))))),
      .slot 12 100000 100000 (fun _ _ => (intVP .u32 (bits .or .u32 (shr .u32 a_0 a_1) (shl .u32 a_0 (IntKind.wrap .u64 (32 - a_1)))))),
      .slot 4 100000 100000 (fun _ _ => (intVP .u32 (bits .or .u32 (shr .u32 a_0 a_1) (shl .u32 a_0 (IntKind.wrap .u64 (32 - a_1))))))] [0, 1, 2, 3, 4, 5, 6, 7, 8] [⟨[0], [], [2], [], some 5⟩, ⟨[1], [], [3], [0], some 6⟩, ⟨[2, 3], [], [4], [0, 1], some 7⟩, ⟨[0], [], [5], [0, 1, 2], some 8⟩, ⟨[1], [], [6], [0, 1, 2, 3], some 9⟩, ⟨[6], [], [7], [0, 1, 2, 3, 4], some 10⟩, ⟨[5, 7], [], [8], [0, 1, 2, 3, 4, 5], some 11⟩, ⟨[4, 8], [], [9], [0, 1, 2, 3, 4, 5, 6], some 12⟩, ⟨[9], [], [10], [0, 1, 2, 3, 4, 5, 6, 7], some 4⟩] [10] mixed hn hG h (by kernel_rfl) ?_ ?_
  · exact ⟨⟨rfl, fun β => (GOk.plain (op_move (opt 0 rfl)) rfl)⟩, ⟨rfl, fun β => (GOk.plain (op_move (opt 0 rfl)) rfl)⟩, ⟨rfl, fun β => (GOk.plain (op_bin (bin_shru rfl) (opt 0 rfl) (opt 1 rfl)) rfl)⟩, ⟨rfl, fun β => (GOk.plain (op_move (opt 0 rfl)) rfl)⟩, ⟨rfl, fun β => (GOk.plain (op_move (opt 0 rfl)) rfl)⟩, ⟨rfl, fun β => (GOk.plain (op_bin bin_sub (opc (ic (by decide))) (opt 0 rfl)) rfl)⟩, ⟨rfl, fun β => (GOk.plain (op_bin (bin_shlu rfl) (opt 0 rfl) (opt 1 rfl)) rfl)⟩, ⟨rfl, fun β => (GOk.plain (op_bin bin_or (opt 0 rfl) (opt 1 rfl)) rfl)⟩, ⟨rfl, fun β => (GOk.plain (op_assign (opt 0 rfl)) rfl)⟩, trivial⟩
  clear h
  intro β a w h
  change SatL c [.slot 4 (intVP .u32 (bits .or .u32 (shr .u32 a_0 a_1) (shl .u32 a_0 (IntKind.wrap .u64 (32 - a_1)))))] a w at h
  clear β
  show Code.wp Tryd.prog _ _ a w
  refine wp_ret ?_
  obtain rfl := Option.some.inj hF
  exact ⟨.inl rfl, ret1 h Tryd.results75 (r_tmp 0 rfl) [] [] rfl rfl rfl⟩

def ref01_First : Option (List Int) := some ([1779033703, 3144134277, 1013904242, 2773480762, 1359893119, 2600822924, 528734635, 1541459225] ++ List.replicate (8 - 8) 0)
theorem ref01_First_ok {r : (List Int)} (hF : ref01_First = some r) : CallOk Tryd.prog KG 59 [] [] (fun _ => []) (aggVP [intsCk .u32 8 r]) := by
  refine CallOk.intro 2 Tryd.func59 rfl Tryd.ntmps59 (Nat.le_of_ble_eq_true rfl) ?_
  intro c a w hG hn h
  unfold ref01_First at hF
  change SatL c [] a w at h
  refine wp_seq ?_
  refine region_do (n := 2) [.slot 0 0 100000 (fun v1_ _ => (lpVP v1_ 0)),
      .res 0 100000 (fun v1_ _ => (lb (v1_) 85 [intsCk .u32 8 (List.replicate 8 0)]))] [0, 0] [⟨[], [], [0, 1], [], some 0⟩] [0, 1] mixed hn hG h (by kernel_rfl) ?_ ?_
  · exact ⟨⟨rfl, fun β => (GOk.plain (op_alloc Tryd.zeroValue85 z85) rfl)⟩, trivial⟩
  clear h
  intro β a w h
  change SatL c [.slot 0 (lpVP (β 0) 0), .res (lb (β 0) 85 [intsCk .u32 8 (List.replicate 8 0)])] a w at h
  generalize β 0 = p1 at h
  clear β
  show Code.wp Tryd.prog _ _ a w
  refine wp_seq ?_
  refine region_do (n := 2) [.slot 1 100000 100000 (fun _ _ => (aggVP [intsCk .u32 8 ([1779033703, 3144134277, 1013904242, 2773480762, 1359893119, 2600822924, 528734635, 1541459225] ++ List.replicate (8 - 8) 0)])),
      .res 100000 100000 (fun _ _ => (lb p1 85 [intsCk .u32 8 ([1779033703, 3144134277, 1013904242, 2773480762, 1359893119, 2600822924, 528734635, 1541459225] ++ List.replicate (8 - 8) 0)]))] [0, 1] [⟨[], [], [2], [], some 1⟩, ⟨[0, 2], [1], [3], [0], none⟩] [0, 3] mixed hn hG h (by kernel_rfl) ?_ ?_
  · exact ⟨⟨rfl, fun β => (GOk.plain (op_buildI (xs := [.const (.int .u32 1779033703), .const (.int .u32 3144134277), .const (.int .u32 1013904242), .const (.int .u32 2773480762), .const (.int .u32 1359893119), .const (.int .u32 2600822924), .const (.int .u32 528734635), .const (.int .u32 1541459225)]) (ys := [1779033703, 3144134277, 1013904242, 2773480762, 1359893119, 2600822924, 528734635, 1541459225]) rfl bu85 ⟨⟨_, (opc (ic (by decide))), (cells_one (one_int _ _))⟩, ⟨_, (opc (ic (by decide))), (cells_one (one_int _ _))⟩, ⟨_, (opc (ic (by decide))), (cells_one (one_int _ _))⟩, ⟨_, (opc (ic (by decide))), (cells_one (one_int _ _))⟩, ⟨_, (opc (ic (by decide))), (cells_one (one_int _ _))⟩, ⟨_, (opc (ic (by decide))), (cells_one (one_int _ _))⟩, ⟨_, (opc (ic (by decide))), (cells_one (one_int _ _))⟩, ⟨_, (opc (ic (by decide))), (cells_one (one_int _ _))⟩, trivial⟩ (by decide) rfl) rfl)⟩, ⟨rfl, fun β => (GOk.plain (op_store_lb [] [intsCk .u32 8 (List.replicate 8 0)] [] [intsCk .u32 8 ([1779033703, 3144134277, 1013904242, 2773480762, 1359893119, 2600822924, 528734635, 1541459225] ++ List.replicate (8 - 8) 0)] Tryd.sizeOf85 (opt 0 rfl) (opt 1 rfl) (cells_agg _) rfl rfl rfl) rfl)⟩, trivial⟩
  clear h
  intro β a w h
  change SatL c [.slot 0 (lpVP p1 0), .res (lb p1 85 [intsCk .u32 8 ([1779033703, 3144134277, 1013904242, 2773480762, 1359893119, 2600822924, 528734635, 1541459225] ++ List.replicate (8 - 8) 0)])] a w at h
  clear β
  show Code.wp Tryd.prog _ _ a w
  refine wp_ret ?_
  obtain rfl := Option.some.inj hF
  exact ⟨.inl rfl, ret1 h Tryd.results59 (r_cell 0 1 rfl rfl Tryd.isAgg85 Tryd.sizeOf85 rfl) [] [] rfl rfl rfl⟩

def ref01_constants : Option (List Int) := some ([1116352408, 1899447441, 3049323471, 3921009573, 961987163, 1508970993, 2453635748, 2870763221, 3624381080, 310598401, 607225278, 1426881987, 1925078388, 2162078206, 2614888103, 3248222580, 3835390401, 4022224774, 264347078, 604807628, 770255983, 1249150122, 1555081692, 1996064986, 2554220882, 2821834349, 2952996808, 3210313671, 3336571891, 3584528711, 113926993, 338241895, 666307205, 773529912, 1294757372, 1396182291, 1695183700, 1986661051, 2177026350, 2456956037, 2730485921, 2820302411, 3259730800, 3345764771, 3516065817, 3600352804, 4094571909, 275423344, 430227734, 506948616, 659060556, 883997877, 958139571, 1322822218, 1537002063, 1747873779, 1955562222, 2024104815, 2227730452, 2361852424, 2428436474, 2756734187, 3204031479, 3329325298] ++ List.replicate (64 - 64) 0)
theorem ref01_constants_ok {r : (List Int)} (hF : ref01_constants = some r) : CallOk Tryd.prog KG 74 [] [] (fun _ => []) (aggVP [intsCk .u32 64 r]) := by
  refine CallOk.intro 2 Tryd.func74 rfl Tryd.ntmps74 (Nat.le_of_ble_eq_true rfl) ?_
  intro c a w hG hn h
  unfold ref01_constants at hF
  change SatL c [] a w at h
  refine wp_seq ?_
  refine region_do (n := 2) [.slot 0 0 100000 (fun v1_ _ => (lpVP v1_ 0)),
      .res 0 100000 (fun v1_ _ => (lb (v1_) 111 [intsCk .u32 64 (List.replicate 64 0)]))] [0, 0] [⟨[], [], [0, 1], [], some 0⟩] [0, 1] mixed hn hG h (by kernel_rfl) ?_ ?_
  · exact ⟨⟨rfl, fun β => (GOk.plain (op_alloc Tryd.zeroValue111 z111) rfl)⟩, trivial⟩
  clear h
  intro β a w h
  change SatL c [.slot 0 (lpVP (β 0) 0), .res (lb (β 0) 111 [intsCk .u32 64 (List.replicate 64 0)])] a w at h
  generalize β 0 = p1 at h
  clear β
  show Code.wp Tryd.prog _ _ a w
  refine wp_seq ?_
  refine region_do (n := 2) [.slot 1 100000 100000 (fun _ _ => (aggVP [intsCk .u32 64 ([1116352408, 1899447441, 3049323471, 3921009573, 961987163, 1508970993, 2453635748, 2870763221, 3624381080, 310598401, 607225278, 1426881987, 1925078388, 2162078206, 2614888103, 3248222580, 3835390401, 4022224774, 264347078, 604807628, 770255983, 1249150122, 1555081692, 1996064986, 2554220882, 2821834349, 2952996808, 3210313671, 3336571891, 3584528711, 113926993, 338241895, 666307205, 773529912, 1294757372, 1396182291, 1695183700, 1986661051, 2177026350, 2456956037, 2730485921, 2820302411, 3259730800, 3345764771, 3516065817, 3600352804, 4094571909, 275423344, 430227734, 506948616, 659060556, 883997877, 958139571, 1322822218, 1537002063, 1747873779, 1955562222, 2024104815, 2227730452, 2361852424, 2428436474, 2756734187, 3204031479, 3329325298] ++ List.replicate (64 - 64) 0)])),
      .res 100000 100000 (fun _ _ => (lb p1 111 [intsCk .u32 64 ([1116352408, 1899447441, 3049323471, 3921009573, 961987163, 1508970993, 2453635748, 2870763221, 3624381080, 310598401, 607225278, 1426881987, 1925078388, 2162078206, 2614888103, 3248222580, 3835390401, 4022224774, 264347078, 604807628, 770255983, 1249150122, 1555081692, 1996064986, 2554220882, 2821834349, 2952996808, 3210313671, 3336571891, 3584528711, 113926993, 338241895, 666307205, 773529912, 1294757372, 1396182291, 1695183700, 1986661051, 2177026350, 2456956037, 2730485921, 2820302411, 3259730800, 3345764771, 3516065817, 3600352804, 4094571909, 275423344, 430227734, 506948616, 659060556, 883997877, 958139571, 1322822218, 1537002063, 1747873779, 1955562222, 2024104815, 2227730452, 2361852424, 2428436474, 2756734187, 3204031479, 3329325298] ++ List.replicate (64 - 64) 0)]))] [0, 1] [⟨[], [], [2], [], some 1⟩, ⟨[0, 2], [1], [3], [0], none⟩] [0, 3] mixed hn hG h (by kernel_rfl) ?_ ?_
  · exact ⟨⟨rfl, fun β => (GOk.plain (op_buildI (xs := [.const (.int .u32 1116352408), .const (.int .u32 1899447441), .const (.int .u32 3049323471), .const (.int .u32 3921009573), .const (.int .u32 961987163), .const (.int .u32 1508970993), .const (.int .u32 2453635748), .const (.int .u32 2870763221), .const (.int .u32 3624381080), .const (.int .u32 310598401), .const (.int .u32 607225278), .const (.int .u32 1426881987), .const (.int .u32 1925078388), .const (.int .u32 2162078206), .const (.int .u32 2614888103), .const (.int .u32 3248222580), .const (.int .u32 3835390401), .const (.int .u32 4022224774), .const (.int .u32 264347078), .const (.int .u32 604807628), .const (.int .u32 770255983), .const (.int .u32 1249150122), .const (.int .u32 1555081692), .const (.int .u32 1996064986), .const (.int .u32 2554220882), .const (.int .u32 2821834349), .const (.int .u32 2952996808), .const (.int .u32 3210313671), .const (.int .u32 3336571891), .const (.int .u32 3584528711), .const (.int .u32 113926993), .const (.int .u32 338241895), .const (.int .u32 666307205), .const (.int .u32 773529912), .const (.int .u32 1294757372), .const (.int .u32 1396182291), .const (.int .u32 1695183700), .const (.int .u32 1986661051), .const (.int .u32 2177026350), .const (.int .u32 2456956037), .const (.int .u32 2730485921), .const (.int .u32 2820302411), .const (.int .u32 3259730800), .const (.int .u32 3345764771), .const (.int .u32 3516065817), .const (.int .u32 3600352804), .const (.int .u32 4094571909), .const (.int .u32 275423344), .const (.int .u32 430227734), .const (.int .u32 506948616), .const (.int .u32 659060556), .const (.int .u32 883997877), .const (.int .u32 958139571), .const (.int .u32 1322822218), .const (.int .u32 1537002063), .const (.int .u32 1747873779), .const (.int .u32 1955562222), .const (.int .u32 2024104815), .const (.int .u32 2227730452), .const (.int .u32 2361852424), .const (.int .u32 2428436474), .const (.int .u32 2756734187), .const (.int .u32 3204031479), .const (.int .u32 3329325298)]) (ys := [1116352408, 1899447441, 3049323471, 3921009573, 961987163, 1508970993, 2453635748, 2870763221, 3624381080, 310598401, 607225278, 1426881987, 1925078388, 2162078206, 2614888103, 3248222580, 3835390401, 4022224774, 264347078, 604807628, 770255983, 1249150122, 1555081692, 1996064986, 2554220882, 2821834349, 2952996808, 3210313671, 3336571891, 3584528711, 113926993, 338241895, 666307205, 773529912, 1294757372, 1396182291, 1695183700, 1986661051, 2177026350, 2456956037, 2730485921, 2820302411, 3259730800, 3345764771, 3516065817, 3600352804, 4094571909, 275423344, 430227734, 506948616, 659060556, 883997877, 958139571, 1322822218, 1537002063, 1747873779, 1955562222, 2024104815, 2227730452, 2361852424, 2428436474, 2756734187, 3204031479, 3329325298]) rfl bu111 ⟨⟨_, (opc (ic (by decide))), (cells_one (one_int _ _))⟩, ⟨_, (opc (ic (by decide))), (cells_one (one_int _ _))⟩, ⟨_, (opc (ic (by decide))), (cells_one (one_int _ _))⟩, ⟨_, (opc (ic (by decide))), (cells_one (one_int _ _))⟩, ⟨_, (opc (ic (by decide))), (cells_one (one_int _ _))⟩, ⟨_, (opc (ic (by decide))), (cells_one (one_int _ _))⟩, ⟨_, (opc (ic (by decide))), (cells_one (one_int _ _))⟩, ⟨_, (opc (ic (by decide))), (cells_one (one_int _ _))⟩, ⟨_, (opc (ic (by decide))), (cells_one (one_int _ _))⟩, ⟨_, (opc (ic (by decide))), (cells_one (one_int _ _))⟩, ⟨_, (opc (ic (by decide))), (cells_one (one_int _ _))⟩, ⟨_, (opc (ic (by decide))), (cells_one (one_int _ _))⟩, ⟨_, (opc (ic (by decide))), (cells_one (one_int _ _))⟩, ⟨_, (opc (ic (by decide))), (cells_one (one_int _ _))⟩, ⟨_, (opc (ic (by decide))), (cells_one (one_int _ _))⟩, ⟨_, (opc (ic (by decide))), (cells_one (one_int _ _))⟩, ⟨_, (opc (ic (by decide))), (cells_one (one_int _ _))⟩, ⟨_, (opc (ic (by decide))), (cells_one (one_int _ _))⟩, ⟨_, (opc (ic (by decide))), (cells_one (one_int _ _))⟩, ⟨_, (opc (ic (by decide))), (cells_one (one_int _ _))⟩, ⟨_, (opc (ic (by decide))), (cells_one (one_int _ _))⟩, ⟨_, (opc (ic (by decide))), (cells_one (one_int _ _))⟩, ⟨_, (opc (ic (by decide))), (cells_one (one_int _ _))⟩, ⟨_, (opc (ic (by decide))), (cells_one (one_int _ _))⟩, ⟨_, (opc (ic (by decide))), (cells_one (one_int _ _))⟩, ⟨_, (opc (ic (by decide))), (cells_one (one_int _ _))⟩, ⟨_, (opc (ic (by decide))), (cells_one (one_int _ _))⟩, ⟨_, (opc (ic (by decide))), (cells_one (one_int _ _))⟩, ⟨_, (opc (ic (by decide))), (cells_one (one_int _ _))⟩, ⟨_, (opc (ic (by decide))), (cells_one (one_int _ _))⟩, ⟨_, (opc (ic (by decide))), (cells_one (one_int _ _))⟩, ⟨_, (opc (ic (by decide))), (cells_one (one_int _ _))⟩, ⟨_, (opc (ic (by decide))), (cells_one (one_int _ _))⟩, ⟨_, (opc (ic (by decide))), (cells_one (one_int _ _))⟩, ⟨_, (opc (ic (by decide))), (cells_one (one_int _ _))⟩, ⟨_, (opc (ic (by decide))), (cells_one (one_int _ _))⟩, ⟨_, (opc (ic (by decide))), (cells_one (one_int _ _))⟩, ⟨_, (opc (ic (by decide))), (cells_one (one_int _ _))⟩, ⟨_, (opc (ic (by decide))), (cells_one (one_int _ _))⟩, ⟨_, (opc (ic (by decide))), (cells_one (one_int _ _))⟩, ⟨_, (opc (ic (by decide))), (cells_one (one_int _ _))⟩, ⟨_, (opc (ic (by decide))), (cells_one (one_int _ _))⟩, ⟨_, (opc (ic (by decide))), (cells_one (one_int _ _))⟩, ⟨_, (opc (ic (by decide))), (cells_one (one_int _ _))⟩, ⟨_, (opc (ic (by decide))), (cells_one (one_int _ _))⟩, ⟨_, (opc (ic (by decide))), (cells_one (one_int _ _))⟩, ⟨_, (opc (ic (by decide))), (cells_one (one_int _ _))⟩, ⟨_, (opc (ic (by decide))), (cells_one (one_int _ _))⟩, ⟨_, (opc (ic (by decide))), (cells_one (one_int _ _))⟩, ⟨_, (opc (ic (by decide))), (cells_one (one_int _ _))⟩, ⟨_, (opc (ic (by decide))), (cells_one (one_int _ _))⟩, ⟨_, (opc (ic (by decide))), (cells_one (one_int _ _))⟩, ⟨_, (opc (ic (by decide))), (cells_one (one_int _ _))⟩, ⟨_, (opc (ic (by decide))), (cells_one (one_int _ _))⟩, ⟨_, (opc (ic (by decide))), (cells_one (one_int _ _))⟩, ⟨_, (opc (ic (by decide))), (cells_one (one_int _ _))⟩, ⟨_, (opc (ic (by decide))), (cells_one (one_int _ _))⟩, ⟨_, (opc (ic (by decide))), (cells_one (one_int _ _))⟩, ⟨_, (opc (ic (by decide))), (cells_one (one_int _ _))⟩, ⟨_, (opc (ic (by decide))), (cells_one (one_int _ _))⟩, ⟨_, (opc (ic (by decide))), (cells_one (one_int _ _))⟩, ⟨_, (opc (ic (by decide))), (cells_one (one_int _ _))⟩, ⟨_, (opc (ic (by decide))), (cells_one (one_int _ _))⟩, ⟨_, (opc (ic (by decide))), (cells_one (one_int _ _))⟩, trivial⟩ (by decide) rfl) rfl)⟩, ⟨rfl, fun β => (GOk.plain (op_store_lb [] [intsCk .u32 64 (List.replicate 64 0)] [] [intsCk .u32 64 ([1116352408, 1899447441, 3049323471, 3921009573, 961987163, 1508970993, 2453635748, 2870763221, 3624381080, 310598401, 607225278, 1426881987, 1925078388, 2162078206, 2614888103, 3248222580, 3835390401, 4022224774, 264347078, 604807628, 770255983, 1249150122, 1555081692, 1996064986, 2554220882, 2821834349, 2952996808, 3210313671, 3336571891, 3584528711, 113926993, 338241895, 666307205, 773529912, 1294757372, 1396182291, 1695183700, 1986661051, 2177026350, 2456956037, 2730485921, 2820302411, 3259730800, 3345764771, 3516065817, 3600352804, 4094571909, 275423344, 430227734, 506948616, 659060556, 883997877, 958139571, 1322822218, 1537002063, 1747873779, 1955562222, 2024104815, 2227730452, 2361852424, 2428436474, 2756734187, 3204031479, 3329325298] ++ List.replicate (64 - 64) 0)] Tryd.sizeOf111 (opt 0 rfl) (opt 1 rfl) (cells_agg _) rfl rfl rfl) rfl)⟩, trivial⟩
  clear h
  intro β a w h
  change SatL c [.slot 0 (lpVP p1 0), .res (lb p1 111 [intsCk .u32 64 ([1116352408, 1899447441, 3049323471, 3921009573, 961987163, 1508970993, 2453635748, 2870763221, 3624381080, 310598401, 607225278, 1426881987, 1925078388, 2162078206, 2614888103, 3248222580, 3835390401, 4022224774, 264347078, 604807628, 770255983, 1249150122, 1555081692, 1996064986, 2554220882, 2821834349, 2952996808, 3210313671, 3336571891, 3584528711, 113926993, 338241895, 666307205, 773529912, 1294757372, 1396182291, 1695183700, 1986661051, 2177026350, 2456956037, 2730485921, 2820302411, 3259730800, 3345764771, 3516065817, 3600352804, 4094571909, 275423344, 430227734, 506948616, 659060556, 883997877, 958139571, 1322822218, 1537002063, 1747873779, 1955562222, 2024104815, 2227730452, 2361852424, 2428436474, 2756734187, 3204031479, 3329325298] ++ List.replicate (64 - 64) 0)])] a w at h
  clear β
  show Code.wp Tryd.prog _ _ a w
  refine wp_ret ?_
  obtain rfl := Option.some.inj hF
  exact ⟨.inl rfl, ret1 h Tryd.results74 (r_cell 0 1 rfl rfl Tryd.isAgg111 Tryd.sizeOf111 rfl) [] [] rfl rfl rfl⟩
end Go.Proofs.YtbhehllkimedaaaDoor
