/- The functions' Lean twins and contracts, printed by this session's own program: part 3. -/
import Derived.Test.YtbhehllkimedaaaDoorG2
namespace Go.Proofs.YtbhehllkimedaaaDoor
open Go Go.RowKit Go.Proofs
set_option maxRecDepth 100000
set_option linter.unusedVariables false
def sha_Sum.b1 (a_0 : List (List UInt8)) (x7 : Int) (x8 : S_sha_State) : Option (Flow (List UInt8) (Int × S_sha_State)) := (if (decide (x7 < (a_0.length : Int))) = true then (if (0 : Int) ≤ x7 ∧ x7 < a_0.length then ((sha_State_Add x8 (a_0.getD x7.toNat default)).bind fun r16 => some (.cont (IntKind.wrap .i64 (x7 + 1), r16))) else none) else some (.brk (x7, x8)))
def sha_Sum (a_0 : List (List UInt8)) : Option (List UInt8) := ((sha_Begin).bind fun r2 => ((loopN (fun s : Int × S_sha_State => sha_Sum.b1 a_0 s.1 s.2) (((a_0.length : Int) - 0 : Int).toNat + 2) (0, r2)).bind fun cr => match cr with | .ret r => some r | .next (y21, y22) => ((sha_State_End y22).bind fun r23 => some r23)))
theorem sha_Sum_ok {a_0 : List (List UInt8)} {r : (List UInt8)} (hF : sha_Sum a_0 = some r) : CallOk Tryd.prog KG 38 [(slVP strC a_0)] [] (fun _ => []) (aggVP [bytesCk 32 r]) := by
  refine CallOk.intro 19 Tryd.func38 rfl Tryd.ntmps38 (Nat.le_of_ble_eq_true rfl) ?_
  intro c a w hG hn h
  unfold sha_Sum at hF
  change SatL c [.slot 0 (slVP strC a_0)] a w at h
  refine wp_seq ?_
  refine region_do (n := 19) [.slot 2 0 100000 (fun v1_ _ => (lpVP v1_ 0)),
      .res 0 100000 (fun v1_ _ => (lb (v1_) 24 [bytesCk 32 (List.replicate 32 0)]))] [0, 0] [⟨[], [], [1, 2], [], some 2⟩] [0, 1, 2] mixed hn hG h (by kernel_rfl) ?_ ?_
  · exact ⟨⟨rfl, fun β => (GOk.plain (op_alloc Tryd.zeroValue24 z24) rfl)⟩, trivial⟩
  clear h
  intro β a w h
  change SatL c [.slot 0 (slVP strC a_0), .slot 2 (lpVP (β 0) 0), .res (lb (β 0) 24 [bytesCk 32 (List.replicate 32 0)])] a w at h
  generalize β 0 = p1 at h
  clear β
  show Code.wp Tryd.prog _ _ a w
  refine wp_seq ?_
  obtain ⟨r2, hr2, hF⟩ := bind_some hF
  refine region_do (n := 19) [.slot 6 100000 100000 (fun _ _ => (aggVP [intsCk .u32 8 r2.f_Words, one (strVP r2.f_Rest), one (intVP .u64 r2.f_Count)])),
      .slot 3 1 100000 (fun v1_ _ => (lpVP v1_ 0)),
      .res 1 100000 (fun v1_ _ => (lb (v1_) 87 [intsCk .u32 8 ((S_sha_State.mk (List.replicate 8 0) [] (0 : Int)).f_Words), one (strVP ((S_sha_State.mk (List.replicate 8 0) [] (0 : Int)).f_Rest)), one (intVP .u64 ((S_sha_State.mk (List.replicate 8 0) [] (0 : Int)).f_Count))])),
      .res 1 100000 (fun v1_ _ => (lb (v1_) 87 [intsCk .u32 8 r2.f_Words, one (strVP r2.f_Rest), one (intVP .u64 r2.f_Count)]))] [0, 1, 1, 2] [⟨[], [], [3], [], some 6⟩, ⟨[], [], [4, 5], [0], some 3⟩, ⟨[4, 3], [5], [6], [0, 1], none⟩] [0, 1, 4, 2, 6] mixed hn hG h (by kernel_rfl) ?_ ?_
  · exact ⟨⟨rfl, fun β => (GOk.plain (op_call Tryd.call50 (sha_Begin_ok hr2) trivial) rfl)⟩, ⟨rfl, fun β => (GOk.plain (op_alloc Tryd.zeroValue87 z87) rfl)⟩, ⟨rfl, fun β => (GOk.plain (op_store_lb [] [intsCk .u32 8 ((S_sha_State.mk (List.replicate 8 0) [] (0 : Int)).f_Words), one (strVP ((S_sha_State.mk (List.replicate 8 0) [] (0 : Int)).f_Rest)), one (intVP .u64 ((S_sha_State.mk (List.replicate 8 0) [] (0 : Int)).f_Count))] [] [intsCk .u32 8 r2.f_Words, one (strVP r2.f_Rest), one (intVP .u64 r2.f_Count)] Tryd.sizeOf87 (opt 0 rfl) (opt 1 rfl) (cells_agg _) rfl rfl rfl) rfl)⟩, trivial⟩
  clear h
  intro β a w h
  change SatL c [.slot 0 (slVP strC a_0), .slot 2 (lpVP p1 0), .slot 3 (lpVP (β 1) 0), .res (lb p1 24 [bytesCk 32 (List.replicate 32 0)]), .res (lb (β 1) 87 [intsCk .u32 8 r2.f_Words, one (strVP r2.f_Rest), one (intVP .u64 r2.f_Count)])] a w at h
  generalize β 1 = p3 at h
  clear β
  show Code.wp Tryd.prog _ _ a w
  refine wp_seq ?_
  refine wp_seq ?_
  refine region_do (n := 19) [.slot 7 100000 100000 (fun _ _ => (slVP strC a_0)),
      .slot 8 100000 100000 (fun _ _ => (intVP .i64 (a_0.length : Int))),
      .slot 9 100000 100000 (fun _ _ => (intVP .i64 0))] [0, 1, 2] [⟨[0], [], [5], [], some 7⟩, ⟨[5], [], [6], [0], some 8⟩, ⟨[], [], [7], [0, 1], some 9⟩] [1, 2, 5, 6, 7, 3, 4] mixed hn hG h (by kernel_rfl) ?_ ?_
  · exact ⟨⟨rfl, fun β => (GOk.plain (op_move (opt 0 rfl)) rfl)⟩, ⟨rfl, fun β => (GOk.plain (op_len_sl Tryd.underlying22 (opt 0 rfl)) rfl)⟩, ⟨rfl, fun β => (GOk.plain (op_move (opc (ic (by decide)))) rfl)⟩, trivial⟩
  clear h
  intro β a w h
  change SatL c [.slot 2 (lpVP p1 0), .slot 3 (lpVP p3 0), .slot 7 (slVP strC a_0), .slot 8 (intVP .i64 (a_0.length : Int)), .slot 9 (intVP .i64 0), .res (lb p1 24 [bytesCk 32 (List.replicate 32 0)]), .res (lb p3 87 [intsCk .u32 8 r2.f_Words, one (strVP r2.f_Rest), one (intVP .u64 r2.f_Count)])] a w at h
  clear β
  show Code.wp Tryd.prog _ _ a w
  refine wp_block ?_
  obtain ⟨cr17, hl18, hF⟩ := bind_some hF
  refine wp_mono (wp_loopN (R := (List UInt8)) (S := Int × S_sha_State) (fun s a w => SatL c [.slot 2 (lpVP p1 0), .slot 3 (lpVP p3 0), .slot 7 (slVP strC a_0), .slot 8 (intVP .i64 (a_0.length : Int)), .slot 9 (intVP .i64 s.1), .res (lb p1 24 [bytesCk 32 (List.replicate 32 0)]), .res (lb p3 87 [intsCk .u32 8 s.2.f_Words, one (strVP s.2.f_Rest), one (intVP .u64 s.2.f_Count)])] a w) (fun res e a w => match res with | .next s => e = .exit 0 ∧ SatL c [.slot 2 (lpVP p1 0), .slot 3 (lpVP p3 0), .res (lb p1 24 [bytesCk 32 (List.replicate 32 0)]), .res (lb p3 87 [intsCk .u32 8 s.2.f_Words, one (strVP s.2.f_Rest), one (intVP .u64 s.2.f_Count)])] a w | .ret r => e = .ret ∧ RetOk Tryd.prog Tryd.f38 c (aggVP [bytesCk 32 r]) (fun _ => []) a w) ?_ _ (0, r2) _ _ _ (h.sub [0, 1, 2, 3, 4, 5, 6] (by rfl)) hl18) ?_
  · clear hl18 hF h
    intro s a w o h hF
    obtain ⟨x7, x8⟩ := s
    change sha_Sum.b1 a_0 x7 x8 = some o at hF
    unfold sha_Sum.b1 at hF
    change SatL c [.slot 2 (lpVP p1 0), .slot 3 (lpVP p3 0), .slot 7 (slVP strC a_0), .slot 8 (intVP .i64 (a_0.length : Int)), .slot 9 (intVP .i64 x7), .res (lb p1 24 [bytesCk 32 (List.replicate 32 0)]), .res (lb p3 87 [intsCk .u32 8 x8.f_Words, one (strVP x8.f_Rest), one (intVP .u64 x8.f_Count)])] a w at h
    refine wp_seq ?_
    refine region_do (n := 19) [.slot 10 100000 100000 (fun _ _ => (boolVP (decide (x7 < (a_0.length : Int)))))] [0] [⟨[4, 3], [], [7], [], some 10⟩] [0, 1, 2, 3, 4, 7, 5, 6] mixed hn hG h (by kernel_rfl) ?_ ?_
    · exact ⟨⟨rfl, fun β => (GOk.plain (op_bin bin_lss (opt 0 rfl) (opt 1 rfl)) rfl)⟩, trivial⟩
    clear h
    intro β a w h
    change SatL c [.slot 2 (lpVP p1 0), .slot 3 (lpVP p3 0), .slot 7 (slVP strC a_0), .slot 8 (intVP .i64 (a_0.length : Int)), .slot 9 (intVP .i64 x7), .slot 10 (boolVP (decide (x7 < (a_0.length : Int)))), .res (lb p1 24 [bytesCk 32 (List.replicate 32 0)]), .res (lb p3 87 [intsCk .u32 8 x8.f_Words, one (strVP x8.f_Rest), one (intVP .u64 x8.f_Count)])] a w at h
    clear β
    show Code.wp Tryd.prog _ _ a w
    refine wp_seq ?_
    refine cond_L h 5 rfl (fun hb14 => ?_) (fun hb14 => ?_)
    · replace hF := tt_of hb14 hF
      replace h := h.sub [0, 1, 2, 3, 4, 6, 7] (by rfl)
      change SatL c [.slot 2 (lpVP p1 0), .slot 3 (lpVP p3 0), .slot 7 (slVP strC a_0), .slot 8 (intVP .i64 (a_0.length : Int)), .slot 9 (intVP .i64 x7), .res (lb p1 24 [bytesCk 32 (List.replicate 32 0)]), .res (lb p3 87 [intsCk .u32 8 x8.f_Words, one (strVP x8.f_Rest), one (intVP .u64 x8.f_Count)])] a w at h
      refine wp_skip ?_
      show Code.wp Tryd.prog _ _ a w
      refine wp_seq ?_
      refine wp_block ?_
      refine wp_seq ?_
      obtain ⟨hv15, hF⟩ := ite_some hF
      refine region_do (n := 19) [.slot 11 100000 100000 (fun _ _ => (ppVP [one (strVP (a_0.getD x7.toNat default))])),
      .slot 12 100000 100000 (fun _ _ => (strVP (a_0.getD x7.toNat default))),
      .slot 5 100000 100000 (fun _ _ => (strVP (a_0.getD x7.toNat default)))] [0, 1, 2] [⟨[2, 4], [], [7], [], some 11⟩, ⟨[7], [], [8], [0], some 12⟩, ⟨[8], [], [9], [0, 1], some 5⟩] [0, 1, 9, 2, 3, 4, 5, 6] mixed hn hG h (by kernel_rfl) ?_ ?_
      · exact ⟨⟨rfl, fun β => (GOk.plain (op_indexAddr_sl Tryd.underlying22 Tryd.sizeOf9 lens_strC (opt 0 rfl) (opt 1 rfl) hv15) rfl)⟩, ⟨rfl, fun β => (GOk.plain (op_load_pp1 [] Tryd.isAgg9 (opt 0 rfl)) rfl)⟩, ⟨rfl, fun β => (GOk.plain (op_assign (opt 0 rfl)) rfl)⟩, trivial⟩
      clear h
      intro β a w h
      change SatL c [.slot 2 (lpVP p1 0), .slot 3 (lpVP p3 0), .slot 5 (strVP (a_0.getD x7.toNat default)), .slot 7 (slVP strC a_0), .slot 8 (intVP .i64 (a_0.length : Int)), .slot 9 (intVP .i64 x7), .res (lb p1 24 [bytesCk 32 (List.replicate 32 0)]), .res (lb p3 87 [intsCk .u32 8 x8.f_Words, one (strVP x8.f_Rest), one (intVP .u64 x8.f_Count)])] a w at h
      clear β
      show Code.wp Tryd.prog _ _ a w
      obtain ⟨r16, hr16, hF⟩ := bind_some hF
      refine region_do (n := 19) [.slot 13 100000 100000 (fun _ _ => (aggVP [intsCk .u32 8 x8.f_Words, one (strVP x8.f_Rest), one (intVP .u64 x8.f_Count)])),
      .slot 14 100000 100000 (fun _ _ => (strVP (a_0.getD x7.toNat default))),
      .slot 15 100000 100000 (fun _ _ => (aggVP [intsCk .u32 8 r16.f_Words, one (strVP r16.f_Rest), one (intVP .u64 r16.f_Count)])),
      .res 100000 100000 (fun _ _ => (lb p3 87 [intsCk .u32 8 r16.f_Words, one (strVP r16.f_Rest), one (intVP .u64 r16.f_Count)]))] [0, 1, 2, 3] [⟨[1, 7], [], [8], [], some 13⟩, ⟨[2], [], [9], [0], some 14⟩, ⟨[8, 9], [], [10], [0, 1], some 15⟩, ⟨[1, 10], [7], [11], [0, 1, 2], none⟩] [0, 1, 3, 4, 5, 6, 11] mixed hn hG h (by kernel_rfl) ?_ ?_
      · exact ⟨⟨rfl, fun β => (GOk.plain (op_load_lb [] [intsCk .u32 8 x8.f_Words, one (strVP x8.f_Rest), one (intVP .u64 x8.f_Count)] [] 1 Tryd.isAgg87 Tryd.sizeOf87 (opt 0 rfl) rfl rfl rfl) rfl)⟩, ⟨rfl, fun β => (GOk.plain (op_move (opt 0 rfl)) rfl)⟩, ⟨rfl, fun β => (GOk.plain (op_call Tryd.call51 (sha_State_Add_ok hr16) ⟨(opt 0 rfl), (opt 1 rfl), trivial⟩) rfl)⟩, ⟨rfl, fun β => (GOk.plain (op_store_lb [] [intsCk .u32 8 x8.f_Words, one (strVP x8.f_Rest), one (intVP .u64 x8.f_Count)] [] [intsCk .u32 8 r16.f_Words, one (strVP r16.f_Rest), one (intVP .u64 r16.f_Count)] Tryd.sizeOf87 (opt 0 rfl) (opt 1 rfl) (cells_agg _) rfl rfl rfl) rfl)⟩, trivial⟩
      clear h
      intro β a w h
      change SatL c [.slot 2 (lpVP p1 0), .slot 3 (lpVP p3 0), .slot 7 (slVP strC a_0), .slot 8 (intVP .i64 (a_0.length : Int)), .slot 9 (intVP .i64 x7), .res (lb p1 24 [bytesCk 32 (List.replicate 32 0)]), .res (lb p3 87 [intsCk .u32 8 r16.f_Words, one (strVP r16.f_Rest), one (intVP .u64 r16.f_Count)])] a w at h
      clear β
      show Code.wp Tryd.prog _ _ a w
      refine region_do (n := 19) [.slot 16 100000 100000 (fun _ _ => (intVP .i64 (IntKind.wrap .i64 (x7 + 1)))),
      .slot 9 100000 100000 (fun _ _ => (intVP .i64 (IntKind.wrap .i64 (x7 + 1))))] [0, 1] [⟨[4], [], [7], [], some 16⟩, ⟨[7], [4], [8], [0], some 9⟩] [0, 1, 2, 3, 8, 5, 6] mixed hn hG h (by kernel_rfl) ?_ ?_
      · exact ⟨⟨rfl, fun β => (GOk.plain (op_bin bin_add (opt 0 rfl) (opc (ic (by decide)))) rfl)⟩, ⟨rfl, fun β => (GOk.drop _ (GOk.plain (op_move (opt 0 rfl)) rfl))⟩, trivial⟩
      clear h
      intro β a w h
      change SatL c [.slot 2 (lpVP p1 0), .slot 3 (lpVP p3 0), .slot 7 (slVP strC a_0), .slot 8 (intVP .i64 (a_0.length : Int)), .slot 9 (intVP .i64 (IntKind.wrap .i64 (x7 + 1))), .res (lb p1 24 [bytesCk 32 (List.replicate 32 0)]), .res (lb p3 87 [intsCk .u32 8 r16.f_Words, one (strVP r16.f_Rest), one (intVP .u64 r16.f_Count)])] a w at h
      clear β
      obtain rfl := Option.some.inj hF
      exact ⟨rfl, h.sub [0, 1, 2, 3, 4, 5, 6] (by rfl)⟩
    · replace hF := ff_of hb14 hF
      replace h := h.sub [0, 1, 2, 3, 4, 6, 7] (by rfl)
      change SatL c [.slot 2 (lpVP p1 0), .slot 3 (lpVP p3 0), .slot 7 (slVP strC a_0), .slot 8 (intVP .i64 (a_0.length : Int)), .slot 9 (intVP .i64 x7), .res (lb p1 24 [bytesCk 32 (List.replicate 32 0)]), .res (lb p3 87 [intsCk .u32 8 x8.f_Words, one (strVP x8.f_Rest), one (intVP .u64 x8.f_Count)])] a w at h
      refine wp_exit ?_
      obtain rfl := Option.some.inj hF
      exact ⟨exit_ne _, rfl, h.sub [0, 1, 5, 6] (by rfl)⟩
  · clear hl18
    intro e a w hq
    cases cr17 with
    | ret r19 =>
      obtain ⟨rfl, hq⟩ := hq
      obtain rfl := Option.some.inj hF
      exact ⟨.inl rfl, hq⟩
    | next s20 =>
      obtain ⟨y21, y22⟩ := s20
      obtain ⟨rfl, h⟩ := hq
      change SatL c [.slot 2 (lpVP p1 0), .slot 3 (lpVP p3 0), .res (lb p1 24 [bytesCk 32 (List.replicate 32 0)]), .res (lb p3 87 [intsCk .u32 8 y22.f_Words, one (strVP y22.f_Rest), one (intVP .u64 y22.f_Count)])] a w at h
      refine inBlock_at ?_
      show Code.wp Tryd.prog _ _ a w
      refine wp_seq ?_
      obtain ⟨r23, hr23, hF⟩ := bind_some hF
      refine region_do (n := 19) [.slot 17 100000 100000 (fun _ _ => (aggVP [intsCk .u32 8 y22.f_Words, one (strVP y22.f_Rest), one (intVP .u64 y22.f_Count)])),
      .slot 18 100000 100000 (fun _ _ => (aggVP [bytesCk 32 r23])),
      .res 100000 100000 (fun _ _ => (lb p1 24 [bytesCk 32 r23]))] [0, 1, 2] [⟨[1, 3], [], [4], [], some 17⟩, ⟨[4], [], [5], [0], some 18⟩, ⟨[0, 5], [2], [6], [0, 1], none⟩] [0, 6] mixed hn hG h (by kernel_rfl) ?_ ?_
      · exact ⟨⟨rfl, fun β => (GOk.plain (op_load_lb [] [intsCk .u32 8 y22.f_Words, one (strVP y22.f_Rest), one (intVP .u64 y22.f_Count)] [] 1 Tryd.isAgg87 Tryd.sizeOf87 (opt 0 rfl) rfl rfl rfl) rfl)⟩, ⟨rfl, fun β => (GOk.plain (op_call Tryd.call52 (sha_State_End_ok hr23) ⟨(opt 0 rfl), trivial⟩) rfl)⟩, ⟨rfl, fun β => (GOk.plain (op_store_lb [] [bytesCk 32 (List.replicate 32 0)] [] [bytesCk 32 r23] Tryd.sizeOf24 (opt 0 rfl) (opt 1 rfl) (cells_agg _) rfl rfl rfl) rfl)⟩, trivial⟩
      clear h
      intro β a w h
      change SatL c [.slot 2 (lpVP p1 0), .res (lb p1 24 [bytesCk 32 r23])] a w at h
      clear β
      show Code.wp Tryd.prog _ _ a w
      refine wp_ret ?_
      obtain rfl := Option.some.inj hF
      exact ⟨.inl rfl, ret1 h Tryd.results38 (r_cell 0 1 rfl rfl Tryd.isAgg24 Tryd.sizeOf24 rfl) [] [] rfl rfl rfl⟩

def digest_Log_note.n (a_1 : List UInt8) (a_2 : List UInt8) : Option (Option O_Log) := some none
def digest_Log_note.j2 (x6 : List ((List UInt8) × (List UInt8))) (x7 : List ((List UInt8) × Bool)) : Option (Option O_Log) := some (some ⟨x6, x7⟩)
def digest_Log_note.j1 (s_0 : O_Log) (a_1 : List UInt8) (a_2 : List UInt8) (x5 : Bool) : Option (Option O_Log) := (if x5 = true then digest_Log_note.j2 s_0.f_inputs (upd a_2 true s_0.f_others) else digest_Log_note.j2 (upd a_1 a_2 s_0.f_inputs) s_0.f_others)
def digest_Log_note.s (s_0 : O_Log) (a_1 : List UInt8) (a_2 : List UInt8) : Option (Option O_Log) := (if ((lkp a_1 s_0.f_inputs).isSome) = true then digest_Log_note.j1 s_0 a_1 a_2 (!decide (((lkp a_1 s_0.f_inputs).getD []) = a_2)) else digest_Log_note.j1 s_0 a_1 a_2 false)
def digest_Log_note (L_0 : Option O_Log) (a_1 : List UInt8) (a_2 : List UInt8) : Option (Option O_Log) := match L_0 with | none => digest_Log_note.n a_1 a_2 | some s_0 => digest_Log_note.s s_0 a_1 a_2
theorem digest_Log_note_ok {p_0 : Value} {L_0 : Option O_Log} {a_1 : List UInt8} {a_2 : List UInt8} {r : (Option O_Log)} (hF : digest_Log_note L_0 a_1 a_2 = some r) : CallOk Tryd.prog KG 40 [(eqVP p_0), (aggVP [bytesCk 32 a_1]), (strVP a_2)] [(Log_e p_0 L_0)] (fun _ => [Log_e p_0 r]) (tupVP []) := by
  refine CallOk.intro 36 Tryd.func40 rfl Tryd.ntmps40 (Nat.le_of_ble_eq_true rfl) ?_
  intro c a w hG hn h
  unfold digest_Log_note at hF
  change SatL c [.slot 0 (eqVP p_0), .slot 1 (aggVP [bytesCk 32 a_1]), .slot 2 (strVP a_2), .res (Log_e p_0 L_0)] a w at h
  obtain ⟨h_0_0, h⟩ := h.ex 3 rfl
  obtain ⟨h_0_1, h⟩ := h.ex 3 rfl
  change SatL c [.slot 0 (eqVP p_0), .slot 1 (aggVP [bytesCk 32 a_1]), .slot 2 (strVP a_2), .res (Log_o p_0 h_0_0 h_0_1 L_0)] a w at h
  cases L_0 with
  | none =>
    change digest_Log_note.n a_1 a_2 = some r at hF
    unfold digest_Log_note.n at hF
    obtain rfl := h.isp 3 rfl (fun _ _ _ q => q.2)
    replace h := h.slotc 0 rfl (V' := ptrVP (.pointer none) false) (fun _ _ h => ⟨h, rfl⟩)
    change SatL c [.slot 0 (ptrVP (.pointer none) false), .slot 1 (aggVP [bytesCk 32 a_1]), .slot 2 (strVP a_2), .res (Log_o (.pointer none) h_0_0 h_0_1 none)] a w at h
    refine wp_seq ?_
    refine region_do (n := 36) [.slot 4 0 100000 (fun v1_ _ => (lpVP v1_ 0)),
      .res 0 100000 (fun v1_ _ => (lb (v1_) 24 [bytesCk 32 a_1]))] [0, 0] [⟨[1], [], [4, 5], [], some 4⟩] [0, 2, 4, 3, 5] mixed hn hG h (by kernel_rfl) ?_ ?_
    · exact ⟨⟨rfl, fun β => (GOk.plain (op_box (opt 0 rfl) (cells_agg _)) rfl)⟩, trivial⟩
    clear h
    intro β a w h
    change SatL c [.slot 0 (ptrVP (.pointer none) false), .slot 2 (strVP a_2), .slot 4 (lpVP (β 0) 0), .res (Log_o (.pointer none) h_0_0 h_0_1 none), .res (lb (β 0) 24 [bytesCk 32 a_1])] a w at h
    generalize β 0 = p1 at h
    clear β
    show Code.wp Tryd.prog _ _ a w
    refine wp_seq ?_
    refine wp_seq ?_
    refine region_do (n := 36) [.slot 8 100000 100000 (fun _ _ => (ptrVP (.pointer none) false)),
      .slot 9 100000 100000 (fun _ _ => (boolVP true))] [0, 1] [⟨[0], [], [5], [], some 8⟩, ⟨[5], [], [6], [0], some 9⟩] [0, 1, 2, 6, 3, 4] mixed hn hG h (by kernel_rfl) ?_ ?_
    · exact ⟨⟨rfl, fun β => (GOk.plain (op_move (opt 0 rfl)) rfl)⟩, ⟨rfl, fun β => (GOk.plain (op_bin (bin_pnil Tryd.underlying30) (opt 0 rfl) (opc (ec _))) rfl)⟩, trivial⟩
    clear h
    intro β a w h
    change SatL c [.slot 0 (ptrVP (.pointer none) false), .slot 2 (strVP a_2), .slot 4 (lpVP p1 0), .slot 9 (boolVP true), .res (Log_o (.pointer none) h_0_0 h_0_1 none), .res (lb p1 24 [bytesCk 32 a_1])] a w at h
    clear β
    show Code.wp Tryd.prog _ _ a w
    refine cond_L h 3 rfl (fun hb2 => ?_) (fun hb2 => ?_)
    · skip
      replace h := h.sub [4] (by rfl)
      change SatL c [.res (Log_o (.pointer none) h_0_0 h_0_1 none)] a w at h
      refine wp_ret ?_
      replace h := h.conv 0 rfl Log_packo
      change SatL c [.res (Log_e (.pointer none) none)] a w at h
      obtain rfl := Option.some.inj hF
      exact ⟨.inl rfl, retn h (rs := []) (Vs := []) Tryd.results40 (by decide) trivial [0] [(Log_e (.pointer none) none)] rfl rfl rfl⟩
    · cases hb2
  | some s_0 =>
    change digest_Log_note.s s_0 a_1 a_2 = some r at hF
    unfold digest_Log_note.s at hF
    have hp := h.isp 3 rfl (fun Φ f w q => Log_lp Φ f w q)
    replace h := h.slotc 0 rfl (V' := lpVP p_0 0) (fun _ _ h => eq_lp h hp)
    replace h := h.sep (R := lb p_0 71 [one (eqVP h_0_0), one (eqVP h_0_1)]) (S := (RP.sep (mapR h_0_0 arrK (fun l => l.length = 32) (fun u y => RP.val (strVP y) u) s_0.f_inputs) (mapR h_0_1 strK (fun _ => True) (fun u y => RP.val (boolVP y) u) s_0.f_others))) 3 rfl
    replace h := h.sep (R := mapR h_0_0 arrK (fun l => l.length = 32) (fun u y => RP.val (strVP y) u) s_0.f_inputs) (S := (mapR h_0_1 strK (fun _ => True) (fun u y => RP.val (boolVP y) u) s_0.f_others)) 4 rfl
    replace h := h.sub [0, 1, 2, 3, 4, 5] (by rfl)
    change SatL c [.slot 0 (lpVP p_0 0), .slot 1 (aggVP [bytesCk 32 a_1]), .slot 2 (strVP a_2), .res (lb p_0 71 [one (eqVP h_0_0), one (eqVP h_0_1)]), .res (mapR h_0_0 arrK (fun l => l.length = 32) (fun u y => RP.val (strVP y) u) s_0.f_inputs), .res (mapR h_0_1 strK (fun _ => True) (fun u y => RP.val (boolVP y) u) s_0.f_others)] a w at h
    refine wp_seq ?_
    refine region_do (n := 36) [.slot 4 0 100000 (fun v1_ _ => (lpVP v1_ 0)),
      .res 0 100000 (fun v1_ _ => (lb (v1_) 24 [bytesCk 32 a_1]))] [0, 0] [⟨[1], [], [6, 7], [], some 4⟩] [0, 2, 6, 3, 4, 5, 7] mixed hn hG h (by kernel_rfl) ?_ ?_
    · exact ⟨⟨rfl, fun β => (GOk.plain (op_box (opt 0 rfl) (cells_agg _)) rfl)⟩, trivial⟩
    clear h
    intro β a w h
    change SatL c [.slot 0 (lpVP p_0 0), .slot 2 (strVP a_2), .slot 4 (lpVP (β 0) 0), .res (lb p_0 71 [one (eqVP h_0_0), one (eqVP h_0_1)]), .res (mapR h_0_0 arrK (fun l => l.length = 32) (fun u y => RP.val (strVP y) u) s_0.f_inputs), .res (mapR h_0_1 strK (fun _ => True) (fun u y => RP.val (boolVP y) u) s_0.f_others), .res (lb (β 0) 24 [bytesCk 32 a_1])] a w at h
    generalize β 0 = p3 at h
    clear β
    show Code.wp Tryd.prog _ _ a w
    refine wp_seq ?_
    refine wp_seq ?_
    refine region_do (n := 36) [.slot 8 100000 100000 (fun _ _ => (lpVP p_0 0)),
      .slot 9 100000 100000 (fun _ _ => (boolVP false))] [0, 1] [⟨[0], [], [7], [], some 8⟩, ⟨[7], [], [8], [0], some 9⟩] [0, 1, 2, 8, 3, 4, 5, 6] mixed hn hG h (by kernel_rfl) ?_ ?_
    · exact ⟨⟨rfl, fun β => (GOk.plain (op_move (opt 0 rfl)) rfl)⟩, ⟨rfl, fun β => (GOk.plain (op_bin (bin_pnil Tryd.underlying30) (lp_ptr (opt 0 rfl)) (opc (ec _))) rfl)⟩, trivial⟩
    clear h
    intro β a w h
    change SatL c [.slot 0 (lpVP p_0 0), .slot 2 (strVP a_2), .slot 4 (lpVP p3 0), .slot 9 (boolVP false), .res (lb p_0 71 [one (eqVP h_0_0), one (eqVP h_0_1)]), .res (mapR h_0_0 arrK (fun l => l.length = 32) (fun u y => RP.val (strVP y) u) s_0.f_inputs), .res (mapR h_0_1 strK (fun _ => True) (fun u y => RP.val (boolVP y) u) s_0.f_others), .res (lb p3 24 [bytesCk 32 a_1])] a w at h
    clear β
    show Code.wp Tryd.prog _ _ a w
    refine cond_L h 3 rfl (fun hb4 => ?_) (fun hb4 => ?_)
    · cases hb4
    · skip
      replace h := h.sub [0, 1, 2, 4, 5, 6, 7] (by rfl)
      change SatL c [.slot 0 (lpVP p_0 0), .slot 2 (strVP a_2), .slot 4 (lpVP p3 0), .res (lb p_0 71 [one (eqVP h_0_0), one (eqVP h_0_1)]), .res (mapR h_0_0 arrK (fun l => l.length = 32) (fun u y => RP.val (strVP y) u) s_0.f_inputs), .res (mapR h_0_1 strK (fun _ => True) (fun u y => RP.val (boolVP y) u) s_0.f_others), .res (lb p3 24 [bytesCk 32 a_1])] a w at h
      refine wp_skip ?_
      show Code.wp Tryd.prog _ _ a w
      refine wp_seq ?_
      refine region_do (n := 36) [.slot 11 100000 100000 (fun _ _ => (lpVP p_0 0)),
      .slot 12 100000 100000 (fun _ _ => (lpVP p_0 0)),
      .slot 13 100000 100000 (fun _ _ => (lpVP p_0 0)),
      .slot 14 100000 100000 (fun _ _ => (eqVP h_0_0)),
      .slot 15 100000 100000 (fun _ _ => (aggVP [bytesCk 32 a_1])),
      .slot 16 100000 100000 (fun _ _ => (tupVP [(strVP ((lkp a_1 s_0.f_inputs).getD [])), (boolVP ((lkp a_1 s_0.f_inputs).isSome))])),
      .slot 10 100000 100000 (fun _ _ => (tupVP [(strVP ((lkp a_1 s_0.f_inputs).getD [])), (boolVP ((lkp a_1 s_0.f_inputs).isSome))])),
      .slot 17 100000 100000 (fun _ _ => (strVP ((lkp a_1 s_0.f_inputs).getD []))),
      .slot 18 100000 100000 (fun _ _ => (boolVP ((lkp a_1 s_0.f_inputs).isSome))),
      .slot 6 100000 100000 (fun _ _ => (strVP ((lkp a_1 s_0.f_inputs).getD []))),
      .slot 7 100000 100000 (fun _ _ => (boolVP ((lkp a_1 s_0.f_inputs).isSome)))] [0, 1, 2, 3, 4, 5, 6, 7, 8, 9, 10] [⟨[0], [], [7], [], some 11⟩, ⟨[7], [], [8], [0], some 12⟩, ⟨[8], [], [9], [0, 1], some 13⟩, ⟨[9, 3], [], [10], [0, 1, 2], some 14⟩, ⟨[2, 6], [], [11], [], some 15⟩, ⟨[10, 11, 4], [], [12], [0, 1, 2, 3, 4], some 16⟩, ⟨[12], [], [13], [0, 1, 2, 3, 4, 5], some 10⟩, ⟨[13], [], [14], [0, 1, 2, 3, 4, 5, 6], some 17⟩, ⟨[13], [], [15], [0, 1, 2, 3, 4, 5, 6], some 18⟩, ⟨[14], [], [16], [0, 1, 2, 3, 4, 5, 6, 7], some 6⟩, ⟨[15], [], [17], [0, 1, 2, 3, 4, 5, 6, 7, 8, 9], some 7⟩] [0, 1, 2, 16, 17, 3, 4, 5, 6] mixed hn hG h (by kernel_rfl) ?_ ?_
      · exact ⟨⟨rfl, fun β => (GOk.plain (op_move (opt 0 rfl)) rfl)⟩, ⟨rfl, fun β => (GOk.plain (op_nilCheck (opt 0 rfl) (ptr_lp _ _)) rfl)⟩, ⟨rfl, fun β => (GOk.plain (op_fieldAddr_lbm (p := p_0) (n := 1) 0 0 Tryd.underlying71 rfl Tryd.sizeOf68 (by decide) (opt 0 rfl) rfl) rfl)⟩, ⟨rfl, fun β => (GOk.plain (op_load_lb1 [] [one (eqVP h_0_1)] 1 Tryd.isAgg68 (opt 0 rfl) rfl rfl) rfl)⟩, ⟨rfl, fun β => (GOk.plain (op_load_lb [] [bytesCk 32 a_1] [] 1 Tryd.isAgg24 Tryd.sizeOf24 (opt 0 rfl) rfl rfl rfl) rfl)⟩, ⟨rfl, fun β => (GOk.plain (op_lookup strVP [] 2 Tryd.underlying68 (keyArr Tryd.underlying24 Tryd.underlying5 Tryd.type5 Tryd.sizeOf5 Tryd.isAgg5) Tryd.zeroValue9 (opt 0 rfl) (opt 1 rfl) hk_arr rfl res_id (fun _ _ _ _ _ h => h.2) (fun _ => ⟨rfl, by decide⟩)) rfl)⟩, ⟨rfl, fun β => (GOk.plain (op_move (opt 0 rfl)) rfl)⟩, ⟨rfl, fun β => (GOk.plain (op_extract (opt 0 rfl) rfl) rfl)⟩, ⟨rfl, fun β => (GOk.plain (op_extract (opt 0 rfl) rfl) rfl)⟩, ⟨rfl, fun β => (GOk.plain (op_assign (opt 0 rfl)) rfl)⟩, ⟨rfl, fun β => (GOk.plain (op_assign (opt 0 rfl)) rfl)⟩, trivial⟩
      clear h
      intro β a w h
      change SatL c [.slot 0 (lpVP p_0 0), .slot 2 (strVP a_2), .slot 4 (lpVP p3 0), .slot 6 (strVP ((lkp a_1 s_0.f_inputs).getD [])), .slot 7 (boolVP ((lkp a_1 s_0.f_inputs).isSome)), .res (lb p_0 71 [one (eqVP h_0_0), one (eqVP h_0_1)]), .res (mapR h_0_0 arrK (fun l => l.length = 32) (fun u y => RP.val (strVP y) u) s_0.f_inputs), .res (mapR h_0_1 strK (fun _ => True) (fun u y => RP.val (boolVP y) u) s_0.f_others), .res (lb p3 24 [bytesCk 32 a_1])] a w at h
      clear β
      show Code.wp Tryd.prog _ _ a w
      refine wp_seq ?_
      refine wp_cut (fun a w => ∃ (x5 : Bool), digest_Log_note.j1 s_0 a_1 a_2 x5 = some r ∧ SatL c [.slot 0 (lpVP p_0 0), .slot 2 (strVP a_2), .slot 4 (lpVP p3 0), .slot 24 (boolVP x5), .res (lb p_0 71 [one (eqVP h_0_0), one (eqVP h_0_1)]), .res (mapR h_0_0 arrK (fun l => l.length = 32) (fun u y => RP.val (strVP y) u) s_0.f_inputs), .res (mapR h_0_1 strK (fun _ => True) (fun u y => RP.val (boolVP y) u) s_0.f_others), .res (lb p3 24 [bytesCk 32 a_1])] a w) ?_ ?_
      · rcases Bool.eq_false_or_eq_true ((lkp a_1 s_0.f_inputs).isSome) with hb9 | hb9
        · replace hF := tt_of hb9 hF
          refine region_do (n := 36) [.slot 19 100000 100000 (fun _ _ => (boolVP ((lkp a_1 s_0.f_inputs).isSome))),
      .slot 20 100000 100000 (fun _ _ => (boolVP ((lkp a_1 s_0.f_inputs).isSome))),
      .slot 21 100000 100000 (fun _ _ => (strVP ((lkp a_1 s_0.f_inputs).getD []))),
      .slot 22 100000 100000 (fun _ _ => (strVP a_2)),
      .slot 23 100000 100000 (fun _ _ => (boolVP (!decide (((lkp a_1 s_0.f_inputs).getD []) = a_2)))),
      .slot 24 100000 100000 (fun _ _ => (boolVP (!decide (((lkp a_1 s_0.f_inputs).getD []) = a_2))))] [0, 1, 2, 3, 4, 5] [⟨[4], [], [9], [], some 19⟩, ⟨[9], [], [10], [0], some 20⟩, ⟨[10, 3], [], [11], [0, 1], some 21⟩, ⟨[10, 1], [], [12], [0, 1, 2], some 22⟩, ⟨[10, 11, 12], [], [13], [0, 1, 2, 3], some 23⟩, ⟨[10, 13], [], [14], [0, 1, 2, 3, 4], some 24⟩] [0, 1, 2, 14, 5, 6, 7, 8] mixed hn hG h (by kernel_rfl) ?_ ?_
          · exact ⟨⟨rfl, fun β => (GOk.plain (op_move (opt 0 rfl)) rfl)⟩, ⟨rfl, fun β => (GOk.plain (op_move (opt 0 rfl)) rfl)⟩, ⟨rfl, fun β => (GOk.on_eq hb9 rfl rfl rfl (op_move (opt 0 rfl)))⟩, ⟨rfl, fun β => (GOk.on_eq hb9 rfl rfl rfl (op_move (opt 0 rfl)))⟩, ⟨rfl, fun β => (GOk.on_eq hb9 rfl rfl rfl (op_bin bin_sneq (opt 0 rfl) (opt 1 rfl)))⟩, ⟨rfl, fun β => (GOk.plain (op_pick_t hb9 (opt 0 rfl) (opt 1 rfl)) rfl)⟩, trivial⟩
          clear h
          intro β a w h
          change SatL c [.slot 0 (lpVP p_0 0), .slot 2 (strVP a_2), .slot 4 (lpVP p3 0), .slot 24 (boolVP (!decide (((lkp a_1 s_0.f_inputs).getD []) = a_2))), .res (lb p_0 71 [one (eqVP h_0_0), one (eqVP h_0_1)]), .res (mapR h_0_0 arrK (fun l => l.length = 32) (fun u y => RP.val (strVP y) u) s_0.f_inputs), .res (mapR h_0_1 strK (fun _ => True) (fun u y => RP.val (boolVP y) u) s_0.f_others), .res (lb p3 24 [bytesCk 32 a_1])] a w at h
          clear β
          exact ⟨!decide (((lkp a_1 s_0.f_inputs).getD []) = a_2), hF, h.sub [0, 1, 2, 3, 4, 5, 6, 7] (by rfl)⟩
        · replace hF := ff_of hb9 hF
          refine region_do (n := 36) [.slot 19 100000 100000 (fun _ _ => (boolVP ((lkp a_1 s_0.f_inputs).isSome))),
      .slot 20 100000 100000 (fun _ _ => (boolVP ((lkp a_1 s_0.f_inputs).isSome))),
      .slot 21 100000 100000 (fun _ _ => (eqVP undef)),
      .slot 22 100000 100000 (fun _ _ => (eqVP undef)),
      .slot 23 100000 100000 (fun _ _ => (eqVP undef)),
      .slot 24 100000 100000 (fun _ _ => (boolVP false))] [0, 1, 2, 3, 4, 5] [⟨[4], [], [9], [], some 19⟩, ⟨[9], [], [10], [0], some 20⟩, ⟨[10], [], [11], [0, 1], some 21⟩, ⟨[10], [], [12], [0, 1, 2], some 22⟩, ⟨[10], [], [13], [0, 1, 2, 3], some 23⟩, ⟨[10], [], [14], [0, 1, 2, 3, 4], some 24⟩] [0, 1, 2, 14, 5, 6, 7, 8] mixed hn hG h (by kernel_rfl) ?_ ?_
          · exact ⟨⟨rfl, fun β => (GOk.plain (op_move (opt 0 rfl)) rfl)⟩, ⟨rfl, fun β => (GOk.plain (op_move (opt 0 rfl)) rfl)⟩, ⟨rfl, fun β => (GOk.off_v (want := true) hb9 rfl rfl rfl rfl)⟩, ⟨rfl, fun β => (GOk.off_v (want := true) hb9 rfl rfl rfl rfl)⟩, ⟨rfl, fun β => (GOk.off_v (want := true) hb9 rfl rfl rfl rfl)⟩, ⟨rfl, fun β => (GOk.plain (op_pick_f hb9 (opt 0 rfl) (opc (bc _))) rfl)⟩, trivial⟩
          clear h
          intro β a w h
          change SatL c [.slot 0 (lpVP p_0 0), .slot 2 (strVP a_2), .slot 4 (lpVP p3 0), .slot 24 (boolVP false), .res (lb p_0 71 [one (eqVP h_0_0), one (eqVP h_0_1)]), .res (mapR h_0_0 arrK (fun l => l.length = 32) (fun u y => RP.val (strVP y) u) s_0.f_inputs), .res (mapR h_0_1 strK (fun _ => True) (fun u y => RP.val (boolVP y) u) s_0.f_others), .res (lb p3 24 [bytesCk 32 a_1])] a w at h
          clear β
          exact ⟨false, hF, h.sub [0, 1, 2, 3, 4, 5, 6, 7] (by rfl)⟩
      · clear h hF
        rintro a w ⟨x5, hF, h⟩
        unfold digest_Log_note.j1 at hF
        show Code.wp Tryd.prog _ _ a w
        refine wp_cut (fun a w => ∃ (x6 : List ((List UInt8) × (List UInt8))), ∃ (x7 : List ((List UInt8) × Bool)), digest_Log_note.j2 x6 x7 = some r ∧ SatL c [.res (lb p_0 71 [one (eqVP h_0_0), one (eqVP h_0_1)]), .res (mapR h_0_0 arrK (fun l => l.length = 32) (fun u y => RP.val (strVP y) u) x6), .res (mapR h_0_1 strK (fun _ => True) (fun u y => RP.val (boolVP y) u) x7)] a w) ?_ ?_
        · refine cond_L h 3 rfl (fun hb8 => ?_) (fun hb8 => ?_)
          · replace hF := tt_of hb8 hF
            replace h := h.sub [0, 1, 4, 5, 6] (by rfl)
            change SatL c [.slot 0 (lpVP p_0 0), .slot 2 (strVP a_2), .res (lb p_0 71 [one (eqVP h_0_0), one (eqVP h_0_1)]), .res (mapR h_0_0 arrK (fun l => l.length = 32) (fun u y => RP.val (strVP y) u) s_0.f_inputs), .res (mapR h_0_1 strK (fun _ => True) (fun u y => RP.val (boolVP y) u) s_0.f_others)] a w at h
            refine region_do (n := 36) [.slot 25 100000 100000 (fun _ _ => (lpVP p_0 0)),
      .slot 26 100000 100000 (fun _ _ => (lpVP p_0 0)),
      .slot 27 100000 100000 (fun _ _ => (lpVP p_0 1)),
      .slot 28 100000 100000 (fun _ _ => (eqVP h_0_1)),
      .slot 29 100000 100000 (fun _ _ => (strVP a_2)),
      .res 100000 100000 (fun _ _ => (mapR h_0_1 strK (fun _ => True) (fun u y => RP.val (boolVP y) u) (upd a_2 true s_0.f_others)))] [0, 1, 2, 3, 4, 5] [⟨[0], [], [5], [], some 25⟩, ⟨[5], [], [6], [0], some 26⟩, ⟨[6], [], [7], [0, 1], some 27⟩, ⟨[7, 2], [], [8], [0, 1, 2], some 28⟩, ⟨[1], [], [9], [0, 1, 2, 3], some 29⟩, ⟨[8, 9], [4], [10], [0, 1, 2, 3, 4], none⟩] [2, 3, 10] mixed hn hG h (by kernel_rfl) ?_ ?_
            · exact ⟨⟨rfl, fun β => (GOk.plain (op_move (opt 0 rfl)) rfl)⟩, ⟨rfl, fun β => (GOk.plain (op_nilCheck (opt 0 rfl) (ptr_lp _ _)) rfl)⟩, ⟨rfl, fun β => (GOk.plain (op_fieldAddr_lbm (p := p_0) (n := 1) 0 1 Tryd.underlying71 rfl Tryd.sizeOf69 (by decide) (opt 0 rfl) rfl) rfl)⟩, ⟨rfl, fun β => (GOk.plain (op_load_lb1 [one (eqVP h_0_0)] [] 1 Tryd.isAgg69 (opt 0 rfl) rfl rfl) rfl)⟩, ⟨rfl, fun β => (GOk.plain (op_move (opt 0 rfl)) rfl)⟩, ⟨rfl, fun β => (GOk.plain (op_mapUpdate Tryd.underlying69 (keyStr Tryd.underlying9) (opt 0 rfl) (opt 1 rfl) hk_str (opc (bc _))) rfl)⟩, trivial⟩
            clear h
            intro β a w h
            change SatL c [.res (lb p_0 71 [one (eqVP h_0_0), one (eqVP h_0_1)]), .res (mapR h_0_0 arrK (fun l => l.length = 32) (fun u y => RP.val (strVP y) u) s_0.f_inputs), .res (mapR h_0_1 strK (fun _ => True) (fun u y => RP.val (boolVP y) u) (upd a_2 true s_0.f_others))] a w at h
            clear β
            exact ⟨s_0.f_inputs, upd a_2 true s_0.f_others, hF, h.sub [0, 1, 2] (by rfl)⟩
          · replace hF := ff_of hb8 hF
            replace h := h.sub [0, 1, 2, 4, 5, 6, 7] (by rfl)
            change SatL c [.slot 0 (lpVP p_0 0), .slot 2 (strVP a_2), .slot 4 (lpVP p3 0), .res (lb p_0 71 [one (eqVP h_0_0), one (eqVP h_0_1)]), .res (mapR h_0_0 arrK (fun l => l.length = 32) (fun u y => RP.val (strVP y) u) s_0.f_inputs), .res (mapR h_0_1 strK (fun _ => True) (fun u y => RP.val (boolVP y) u) s_0.f_others), .res (lb p3 24 [bytesCk 32 a_1])] a w at h
            refine region_do (n := 36) [.slot 30 100000 100000 (fun _ _ => (lpVP p_0 0)),
      .slot 31 100000 100000 (fun _ _ => (lpVP p_0 0)),
      .slot 32 100000 100000 (fun _ _ => (lpVP p_0 0)),
      .slot 33 100000 100000 (fun _ _ => (eqVP h_0_0)),
      .slot 34 100000 100000 (fun _ _ => (aggVP [bytesCk 32 a_1])),
      .slot 35 100000 100000 (fun _ _ => (strVP a_2)),
      .res 100000 100000 (fun _ _ => (mapR h_0_0 arrK (fun l => l.length = 32) (fun u y => RP.val (strVP y) u) (upd a_1 a_2 s_0.f_inputs)))] [0, 1, 2, 3, 4, 5, 6] [⟨[0], [], [7], [], some 30⟩, ⟨[7], [], [8], [0], some 31⟩, ⟨[8], [], [9], [0, 1], some 32⟩, ⟨[9, 3], [], [10], [0, 1, 2], some 33⟩, ⟨[2, 6], [], [11], [], some 34⟩, ⟨[1], [], [12], [], some 35⟩, ⟨[10, 11, 12], [4], [13], [0, 1, 2, 3, 4, 5], none⟩] [3, 13, 5] mixed hn hG h (by kernel_rfl) ?_ ?_
            · exact ⟨⟨rfl, fun β => (GOk.plain (op_move (opt 0 rfl)) rfl)⟩, ⟨rfl, fun β => (GOk.plain (op_nilCheck (opt 0 rfl) (ptr_lp _ _)) rfl)⟩, ⟨rfl, fun β => (GOk.plain (op_fieldAddr_lbm (p := p_0) (n := 1) 0 0 Tryd.underlying71 rfl Tryd.sizeOf68 (by decide) (opt 0 rfl) rfl) rfl)⟩, ⟨rfl, fun β => (GOk.plain (op_load_lb1 [] [one (eqVP h_0_1)] 1 Tryd.isAgg68 (opt 0 rfl) rfl rfl) rfl)⟩, ⟨rfl, fun β => (GOk.plain (op_load_lb [] [bytesCk 32 a_1] [] 1 Tryd.isAgg24 Tryd.sizeOf24 (opt 0 rfl) rfl rfl rfl) rfl)⟩, ⟨rfl, fun β => (GOk.plain (op_move (opt 0 rfl)) rfl)⟩, ⟨rfl, fun β => (GOk.plain (op_mapUpdate Tryd.underlying68 (keyArr Tryd.underlying24 Tryd.underlying5 Tryd.type5 Tryd.sizeOf5 Tryd.isAgg5) (opt 0 rfl) (opt 1 rfl) hk_arr (opt 2 rfl)) rfl)⟩, trivial⟩
            clear h
            intro β a w h
            change SatL c [.res (lb p_0 71 [one (eqVP h_0_0), one (eqVP h_0_1)]), .res (mapR h_0_0 arrK (fun l => l.length = 32) (fun u y => RP.val (strVP y) u) (upd a_1 a_2 s_0.f_inputs)), .res (mapR h_0_1 strK (fun _ => True) (fun u y => RP.val (boolVP y) u) s_0.f_others)] a w at h
            clear β
            exact ⟨upd a_1 a_2 s_0.f_inputs, s_0.f_others, hF, h.sub [0, 1, 2] (by rfl)⟩
        · clear h hF
          rintro a w ⟨x6, x7, hF, h⟩
          unfold digest_Log_note.j2 at hF
          replace h := h.unsep 1 2 rfl rfl (by decide)
          replace h := h.unsep 0 1 rfl rfl (by decide)
          replace h := h.conv 0 rfl (R' := Log_e p_0 (some ⟨x6, x7⟩)) (Log_packo (v0 := h_0_0) (v1 := h_0_1) (o := (some ⟨x6, x7⟩)))
          replace h := h.sub [0] (by rfl)
          change SatL c [.res (Log_e p_0 (some ⟨x6, x7⟩))] a w at h
          obtain rfl := Option.some.inj hF
          exact ⟨.inr rfl, retn h (rs := []) (Vs := []) Tryd.results40 (by decide) trivial [0] [(Log_e p_0 (some ⟨x6, x7⟩))] rfl rfl rfl⟩

def digest_Log_Clash.n : Option Bool := some false
def digest_Log_Clash.s (s_0 : O_Log) : Option Bool := (if s_0.f_others.length ≤ mxl then some (decide ((0 : Int) < (s_0.f_others.length : Int))) else none)
def digest_Log_Clash (L_0 : Option O_Log) : Option Bool := match L_0 with | none => digest_Log_Clash.n | some s_0 => digest_Log_Clash.s s_0
theorem digest_Log_Clash_ok {p_0 : Value} {h_0_0 : Value} {h_0_1 : Value} {L_0 : Option O_Log} {r : Bool} (hF : digest_Log_Clash L_0 = some r) : CallOk Tryd.prog KG 16 [(eqVP p_0)] [(Log_o p_0 h_0_0 h_0_1 L_0)] (fun _ => [(Log_o p_0 h_0_0 h_0_1 L_0)]) (boolVP r) := by
  refine CallOk.intro 13 Tryd.func16 rfl Tryd.ntmps16 (Nat.le_of_ble_eq_true rfl) ?_
  intro c a w hG hn h
  unfold digest_Log_Clash at hF
  change SatL c [.slot 0 (eqVP p_0), .res (Log_o p_0 h_0_0 h_0_1 L_0)] a w at h
  cases L_0 with
  | none =>
    change digest_Log_Clash.n = some r at hF
    unfold digest_Log_Clash.n at hF
    obtain rfl := h.isp 1 rfl (fun _ _ _ q => q.2)
    replace h := h.slotc 0 rfl (V' := ptrVP (.pointer none) false) (fun _ _ h => ⟨h, rfl⟩)
    change SatL c [.slot 0 (ptrVP (.pointer none) false), .res (Log_o (.pointer none) h_0_0 h_0_1 none)] a w at h
    refine wp_seq ?_
    refine region_do (n := 13) [.slot 2 100000 100000 (fun _ _ => (boolVP false))] [0] [⟨[], [], [2], [], some 2⟩] [0, 1] mixed hn hG h (by kernel_rfl) ?_ ?_
    · exact ⟨⟨rfl, fun β => (GOk.plain (op_assign (opc (bc _))) rfl)⟩, trivial⟩
    clear h
    intro β a w h
    change SatL c [.slot 0 (ptrVP (.pointer none) false), .res (Log_o (.pointer none) h_0_0 h_0_1 none)] a w at h
    clear β
    show Code.wp Tryd.prog _ _ a w
    refine wp_seq ?_
    refine region_do (n := 13) [.slot 3 100000 100000 (fun _ _ => (ptrVP (.pointer none) false)),
      .slot 4 100000 100000 (fun _ _ => (boolVP false)),
      .slot 5 100000 100000 (fun _ _ => (boolVP false)),
      .slot 6 100000 100000 (fun _ _ => (eqVP undef)),
      .slot 7 100000 100000 (fun _ _ => (eqVP undef)),
      .slot 8 100000 100000 (fun _ _ => (eqVP undef)),
      .slot 9 100000 100000 (fun _ _ => (eqVP undef)),
      .slot 10 100000 100000 (fun _ _ => (eqVP undef)),
      .slot 11 100000 100000 (fun _ _ => (eqVP undef)),
      .slot 12 100000 100000 (fun _ _ => (boolVP false)),
      .slot 2 100000 100000 (fun _ _ => (boolVP false))] [0, 1, 2, 3, 4, 5, 6, 7, 8, 9, 10] [⟨[0], [], [2], [], some 3⟩, ⟨[2], [], [3], [0], some 4⟩, ⟨[3], [], [4], [0, 1], some 5⟩, ⟨[4], [], [5], [0, 1, 2], some 6⟩, ⟨[4], [], [6], [0, 1, 2, 3], some 7⟩, ⟨[4], [], [7], [0, 1, 2, 3, 4], some 8⟩, ⟨[4], [], [8], [0, 1, 2, 3, 4, 5], some 9⟩, ⟨[4], [], [9], [0, 1, 2, 3, 4, 5, 6], some 10⟩, ⟨[4], [], [10], [0, 1, 2, 3, 4, 5, 6, 7], some 11⟩, ⟨[4], [], [11], [0, 1, 2, 3, 4, 5, 6, 7, 8], some 12⟩, ⟨[11], [], [12], [0, 1, 2, 3, 4, 5, 6, 7, 8, 9], some 2⟩] [12, 1] mixed hn hG h (by kernel_rfl) ?_ ?_
    · exact ⟨⟨rfl, fun β => (GOk.plain (op_move (opt 0 rfl)) rfl)⟩, ⟨rfl, fun β => (GOk.plain (op_bin (bin_pnn Tryd.underlying30) (opt 0 rfl) (opc (ec _))) rfl)⟩, ⟨rfl, fun β => (GOk.plain (op_move (opt 0 rfl)) rfl)⟩, ⟨rfl, fun β => (GOk.off_v (want := true) rfl rfl rfl rfl rfl)⟩, ⟨rfl, fun β => (GOk.off_v (want := true) rfl rfl rfl rfl rfl)⟩, ⟨rfl, fun β => (GOk.off_v (want := true) rfl rfl rfl rfl rfl)⟩, ⟨rfl, fun β => (GOk.off_v (want := true) rfl rfl rfl rfl rfl)⟩, ⟨rfl, fun β => (GOk.off_v (want := true) rfl rfl rfl rfl rfl)⟩, ⟨rfl, fun β => (GOk.off_v (want := true) rfl rfl rfl rfl rfl)⟩, ⟨rfl, fun β => (GOk.plain (op_pick_f rfl (opt 0 rfl) (opc (bc _))) rfl)⟩, ⟨rfl, fun β => (GOk.plain (op_assign (opt 0 rfl)) rfl)⟩, trivial⟩
    clear h
    intro β a w h
    change SatL c [.slot 2 (boolVP false), .res (Log_o (.pointer none) h_0_0 h_0_1 none)] a w at h
    clear β
    show Code.wp Tryd.prog _ _ a w
    refine wp_ret ?_
    obtain rfl := Option.some.inj hF
    exact ⟨.inl rfl, ret1 h Tryd.results16 (r_tmp 0 rfl) [1] [(Log_o (.pointer none) h_0_0 h_0_1 none)] rfl rfl rfl⟩
  | some s_0 =>
    change digest_Log_Clash.s s_0 = some r at hF
    unfold digest_Log_Clash.s at hF
    have hp := h.isp 1 rfl (fun Φ f w q => Log_lp Φ f w q)
    replace h := h.slotc 0 rfl (V' := lpVP p_0 0) (fun _ _ h => eq_lp h hp)
    replace h := h.sep (R := lb p_0 71 [one (eqVP h_0_0), one (eqVP h_0_1)]) (S := (RP.sep (mapR h_0_0 arrK (fun l => l.length = 32) (fun u y => RP.val (strVP y) u) s_0.f_inputs) (mapR h_0_1 strK (fun _ => True) (fun u y => RP.val (boolVP y) u) s_0.f_others))) 1 rfl
    replace h := h.sep (R := mapR h_0_0 arrK (fun l => l.length = 32) (fun u y => RP.val (strVP y) u) s_0.f_inputs) (S := (mapR h_0_1 strK (fun _ => True) (fun u y => RP.val (boolVP y) u) s_0.f_others)) 2 rfl
    replace h := h.sub [0, 1, 2, 3] (by rfl)
    change SatL c [.slot 0 (lpVP p_0 0), .res (lb p_0 71 [one (eqVP h_0_0), one (eqVP h_0_1)]), .res (mapR h_0_0 arrK (fun l => l.length = 32) (fun u y => RP.val (strVP y) u) s_0.f_inputs), .res (mapR h_0_1 strK (fun _ => True) (fun u y => RP.val (boolVP y) u) s_0.f_others)] a w at h
    refine wp_seq ?_
    refine region_do (n := 13) [.slot 2 100000 100000 (fun _ _ => (boolVP false))] [0] [⟨[], [], [4], [], some 2⟩] [0, 1, 2, 3] mixed hn hG h (by kernel_rfl) ?_ ?_
    · exact ⟨⟨rfl, fun β => (GOk.plain (op_assign (opc (bc _))) rfl)⟩, trivial⟩
    clear h
    intro β a w h
    change SatL c [.slot 0 (lpVP p_0 0), .res (lb p_0 71 [one (eqVP h_0_0), one (eqVP h_0_1)]), .res (mapR h_0_0 arrK (fun l => l.length = 32) (fun u y => RP.val (strVP y) u) s_0.f_inputs), .res (mapR h_0_1 strK (fun _ => True) (fun u y => RP.val (boolVP y) u) s_0.f_others)] a w at h
    clear β
    show Code.wp Tryd.prog _ _ a w
    refine wp_seq ?_
    obtain ⟨hv1, hF⟩ := ite_some hF
    refine region_do (n := 13) [.slot 3 100000 100000 (fun _ _ => (lpVP p_0 0)),
      .slot 4 100000 100000 (fun _ _ => (boolVP true)),
      .slot 5 100000 100000 (fun _ _ => (boolVP true)),
      .slot 6 100000 100000 (fun _ _ => (lpVP p_0 0)),
      .slot 7 100000 100000 (fun _ _ => (lpVP p_0 0)),
      .slot 8 100000 100000 (fun _ _ => (lpVP p_0 1)),
      .slot 9 100000 100000 (fun _ _ => (eqVP h_0_1)),
      .slot 10 100000 100000 (fun _ _ => (intVP .i64 (s_0.f_others.length : Int))),
      .slot 11 100000 100000 (fun _ _ => (boolVP (decide ((0 : Int) < (s_0.f_others.length : Int))))),
      .slot 12 100000 100000 (fun _ _ => (boolVP (decide ((0 : Int) < (s_0.f_others.length : Int))))),
      .slot 2 100000 100000 (fun _ _ => (boolVP (decide ((0 : Int) < (s_0.f_others.length : Int)))))] [0, 1, 2, 3, 4, 5, 6, 7, 8, 9, 10] [⟨[0], [], [4], [], some 3⟩, ⟨[4], [], [5], [0], some 4⟩, ⟨[5], [], [6], [0, 1], some 5⟩, ⟨[6, 0], [], [7], [0, 1, 2], some 6⟩, ⟨[6, 7], [], [8], [0, 1, 2, 3], some 7⟩, ⟨[6, 8], [], [9], [0, 1, 2, 3, 4], some 8⟩, ⟨[6, 9, 1], [], [10], [0, 1, 2, 3, 4, 5], some 9⟩, ⟨[6, 10, 3], [], [11], [0, 1, 2, 3, 4, 5, 6], some 10⟩, ⟨[6, 11], [], [12], [0, 1, 2, 3, 4, 5, 6, 7], some 11⟩, ⟨[6, 12], [], [13], [0, 1, 2, 3, 4, 5, 6, 7, 8], some 12⟩, ⟨[13], [], [14], [0, 1, 2, 3, 4, 5, 6, 7, 8, 9], some 2⟩] [14, 1, 2, 3] mixed hn hG h (by kernel_rfl) ?_ ?_
    · exact ⟨⟨rfl, fun β => (GOk.plain (op_move (opt 0 rfl)) rfl)⟩, ⟨rfl, fun β => (GOk.plain (op_bin (bin_pnn Tryd.underlying30) (lp_ptr (opt 0 rfl)) (opc (ec _))) rfl)⟩, ⟨rfl, fun β => (GOk.plain (op_move (opt 0 rfl)) rfl)⟩, ⟨rfl, fun β => (GOk.on_eq rfl rfl rfl rfl (op_move (opt 0 rfl)))⟩, ⟨rfl, fun β => (GOk.on_eq rfl rfl rfl rfl (op_nilCheck (opt 0 rfl) (ptr_lp _ _)))⟩, ⟨rfl, fun β => (GOk.on_eq rfl rfl rfl rfl (op_fieldAddr_lbm (p := p_0) (n := 1) 0 1 Tryd.underlying71 rfl Tryd.sizeOf69 (by decide) (opt 0 rfl) rfl))⟩, ⟨rfl, fun β => (GOk.on_eq rfl rfl rfl rfl (op_load_lb1 [one (eqVP h_0_0)] [] 1 Tryd.isAgg69 (opt 0 rfl) rfl rfl))⟩, ⟨rfl, fun β => (GOk.on_eq rfl rfl rfl rfl (op_len_map 1 Tryd.underlying69 (opt 0 rfl) rfl res_id hv1))⟩, ⟨rfl, fun β => (GOk.on_eq rfl rfl rfl rfl (op_bin bin_gtr (opt 0 rfl) (opc (ic (by decide)))))⟩, ⟨rfl, fun β => (GOk.plain (op_pick_t rfl (opt 0 rfl) (opt 1 rfl)) rfl)⟩, ⟨rfl, fun β => (GOk.plain (op_assign (opt 0 rfl)) rfl)⟩, trivial⟩
    clear h
    intro β a w h
    change SatL c [.slot 2 (boolVP (decide ((0 : Int) < (s_0.f_others.length : Int)))), .res (lb p_0 71 [one (eqVP h_0_0), one (eqVP h_0_1)]), .res (mapR h_0_0 arrK (fun l => l.length = 32) (fun u y => RP.val (strVP y) u) s_0.f_inputs), .res (mapR h_0_1 strK (fun _ => True) (fun u y => RP.val (boolVP y) u) s_0.f_others)] a w at h
    clear β
    show Code.wp Tryd.prog _ _ a w
    refine wp_ret ?_
    replace h := h.unsep 2 3 rfl rfl (by decide)
    replace h := h.unsep 1 2 rfl rfl (by decide)
    replace h := h.sub [0, 1] (by rfl)
    change SatL c [.slot 2 (boolVP (decide ((0 : Int) < (s_0.f_others.length : Int)))), .res (Log_o p_0 h_0_0 h_0_1 (some s_0))] a w at h
    obtain rfl := Option.some.inj hF
    exact ⟨.inl rfl, ret1 h Tryd.results16 (r_tmp 0 rfl) [1] [(Log_o p_0 h_0_0 h_0_1 (some s_0))] rfl rfl rfl⟩
theorem digest_Log_Clash_oke {p_0 : Value} {L_0 : Option O_Log} {r : Bool} (hF : digest_Log_Clash L_0 = some r) : CallOk Tryd.prog KG 16 [(eqVP p_0)] [Log_e p_0 L_0] (fun _ => [Log_e p_0 L_0]) (boolVP r) := CallOk.ex fun h_0_0 => CallOk.ex fun h_0_1 => digest_Log_Clash_ok hF
theorem digest_Log_Clash_oku {p_0 : Value} {h_0_0 : Value} {h_0_1 : Value} {s_0 : O_Log} {r : Bool} (hF : digest_Log_Clash (some s_0) = some r) : CallOk Tryd.prog KG 16 [(eqVP p_0)] [lb p_0 71 [one (eqVP h_0_0), one (eqVP h_0_1)], mapR h_0_0 arrK (fun l => l.length = 32) (fun u y => RP.val (strVP y) u) s_0.f_inputs, mapR h_0_1 strK (fun _ => True) (fun u y => RP.val (boolVP y) u) s_0.f_others] (fun _ => [lb p_0 71 [one (eqVP h_0_0), one (eqVP h_0_1)], mapR h_0_0 arrK (fun l => l.length = 32) (fun u y => RP.val (strVP y) u) s_0.f_inputs, mapR h_0_1 strK (fun _ => True) (fun u y => RP.val (boolVP y) u) s_0.f_others]) (boolVP r) := CallOk.split2 (digest_Log_Clash_ok hF)

def digest_Log_Of (L_0 : Option O_Log) (a_1 : Int) (a_2 : List (List UInt8)) : Option ((List UInt8) × (Option O_Log)) := ((digest_input a_1 a_2).bind fun r2 => ((sha_Sum [r2]).bind fun r3 => ((digest_Log_note L_0 r3 r2).bind fun r5 => some (r3, r5))))
theorem digest_Log_Of_ok {p_0 : Value} {L_0 : Option O_Log} {a_1 : Int} {a_2 : List (List UInt8)} {r : (List UInt8) × (Option O_Log)} (hF : digest_Log_Of L_0 a_1 a_2 = some r) : CallOk Tryd.prog KG 14 [(eqVP p_0), (intVP .u8 a_1), (slVP strC a_2)] [(Log_e p_0 L_0)] (fun _ => [Log_e p_0 r.2]) (aggVP [bytesCk 32 r.1]) := by
  refine CallOk.intro 20 Tryd.func14 rfl Tryd.ntmps14 (Nat.le_of_ble_eq_true rfl) ?_
  intro c a w hG hn h
  unfold digest_Log_Of at hF
  change SatL c [.slot 0 (eqVP p_0), .slot 1 (intVP .u8 a_1), .slot 2 (slVP strC a_2), .res (Log_e p_0 L_0)] a w at h
  refine wp_seq ?_
  refine region_do (n := 20) [.slot 6 0 100000 (fun v1_ _ => (lpVP v1_ 0)),
      .res 0 100000 (fun v1_ _ => (lb (v1_) 24 [bytesCk 32 (List.replicate 32 0)]))] [0, 0] [⟨[], [], [4, 5], [], some 6⟩] [0, 1, 2, 4, 3, 5] mixed hn hG h (by kernel_rfl) ?_ ?_
  · exact ⟨⟨rfl, fun β => (GOk.plain (op_alloc Tryd.zeroValue24 z24) rfl)⟩, trivial⟩
  clear h
  intro β a w h
  change SatL c [.slot 0 (eqVP p_0), .slot 1 (intVP .u8 a_1), .slot 2 (slVP strC a_2), .slot 6 (lpVP (β 0) 0), .res (Log_e p_0 L_0), .res (lb (β 0) 24 [bytesCk 32 (List.replicate 32 0)])] a w at h
  generalize β 0 = p1 at h
  clear β
  show Code.wp Tryd.prog _ _ a w
  refine wp_seq ?_
  obtain ⟨r2, hr2, hF⟩ := bind_some hF
  refine region_do (n := 20) [.slot 9 100000 100000 (fun _ _ => (intVP .u8 a_1)),
      .slot 10 100000 100000 (fun _ _ => (slVP strC a_2)),
      .slot 11 100000 100000 (fun _ _ => (strVP r2)),
      .slot 7 100000 100000 (fun _ _ => (strVP r2))] [0, 1, 2, 3] [⟨[1], [], [6], [], some 9⟩, ⟨[2], [], [7], [0], some 10⟩, ⟨[6, 7], [], [8], [0, 1], some 11⟩, ⟨[8], [], [9], [0, 1, 2], some 7⟩] [0, 3, 9, 4, 5] mixed hn hG h (by kernel_rfl) ?_ ?_
  · exact ⟨⟨rfl, fun β => (GOk.plain (op_move (opt 0 rfl)) rfl)⟩, ⟨rfl, fun β => (GOk.plain (op_move (opt 0 rfl)) rfl)⟩, ⟨rfl, fun β => (GOk.plain (op_call Tryd.call39 (digest_input_ok hr2) ⟨(opt 0 rfl), (opt 1 rfl), trivial⟩) rfl)⟩, ⟨rfl, fun β => (GOk.plain (op_assign (opt 0 rfl)) rfl)⟩, trivial⟩
  clear h
  intro β a w h
  change SatL c [.slot 0 (eqVP p_0), .slot 6 (lpVP p1 0), .slot 7 (strVP r2), .res (Log_e p_0 L_0), .res (lb p1 24 [bytesCk 32 (List.replicate 32 0)])] a w at h
  clear β
  show Code.wp Tryd.prog _ _ a w
  refine wp_seq ?_
  obtain ⟨r3, hr3, hF⟩ := bind_some hF
  refine region_do (n := 20) [.slot 12 100000 100000 (fun _ _ => (strVP r2)),
      .slot 13 100000 100000 (fun _ _ => (slVP strC [r2])),
      .slot 14 100000 100000 (fun _ _ => (aggVP [bytesCk 32 r3])),
      .slot 8 3 100000 (fun v1_ _ => (lpVP v1_ 0)),
      .res 3 100000 (fun v1_ _ => (lb (v1_) 24 [bytesCk 32 (List.replicate 32 0)])),
      .res 3 100000 (fun v1_ _ => (lb (v1_) 24 [bytesCk 32 r3]))] [0, 1, 2, 3, 3, 4] [⟨[2], [], [5], [], some 12⟩, ⟨[5], [], [6], [0], some 13⟩, ⟨[6], [], [7], [0, 1], some 14⟩, ⟨[], [], [8, 9], [0, 1, 2], some 8⟩, ⟨[8, 7], [9], [10], [0, 1, 2, 3], none⟩] [0, 1, 2, 8, 3, 4, 10] mixed hn hG h (by kernel_rfl) ?_ ?_
  · exact ⟨⟨rfl, fun β => (GOk.plain (op_move (opt 0 rfl)) rfl)⟩, ⟨rfl, fun β => (GOk.plain (op_lit (xs := [.tmp 12]) (ys := [r2]) _ rfl Tryd.underlying22 Tryd.sizeOf9 Tryd.zeroValue9 rfl rfl (by decide) (by decide) ⟨⟨_, (opt 0 rfl), (cells_one (one_str _))⟩, trivial⟩ lens_strC) rfl)⟩, ⟨rfl, fun β => (GOk.plain (op_call Tryd.call38 (sha_Sum_ok hr3) ⟨(opt 0 rfl), trivial⟩) rfl)⟩, ⟨rfl, fun β => (GOk.plain (op_alloc Tryd.zeroValue24 z24) rfl)⟩, ⟨rfl, fun β => (GOk.plain (op_store_lb [] [bytesCk 32 (List.replicate 32 0)] [] [bytesCk 32 r3] Tryd.sizeOf24 (opt 0 rfl) (opt 1 rfl) (cells_agg _) rfl rfl rfl) rfl)⟩, trivial⟩
  clear h
  intro β a w h
  change SatL c [.slot 0 (eqVP p_0), .slot 6 (lpVP p1 0), .slot 7 (strVP r2), .slot 8 (lpVP (β 3) 0), .res (Log_e p_0 L_0), .res (lb p1 24 [bytesCk 32 (List.replicate 32 0)]), .res (lb (β 3) 24 [bytesCk 32 r3])] a w at h
  generalize β 3 = p4 at h
  clear β
  show Code.wp Tryd.prog _ _ a w
  refine wp_seq ?_
  obtain ⟨r5, hr5, hF⟩ := bind_some hF
  refine region_do (n := 20) [.slot 15 100000 100000 (fun _ _ => (eqVP p_0)),
      .slot 16 100000 100000 (fun _ _ => (aggVP [bytesCk 32 r3])),
      .slot 17 100000 100000 (fun _ _ => (strVP r2)),
      .slot 18 100000 100000 (fun _ _ => (tupVP [])),
      .res 100000 100000 (fun _ _ => (Log_e p_0 r5))] [0, 1, 2, 3, 3] [⟨[0], [], [7], [], some 15⟩, ⟨[3, 6], [], [8], [0], some 16⟩, ⟨[2], [], [9], [0, 1], some 17⟩, ⟨[7, 8, 9], [4], [10, 11], [0, 1, 2], some 18⟩] [1, 3, 5, 6, 11] mixed hn hG h (by kernel_rfl) ?_ ?_
  · exact ⟨⟨rfl, fun β => (GOk.plain (op_move (opt 0 rfl)) rfl)⟩, ⟨rfl, fun β => (GOk.plain (op_load_lb [] [bytesCk 32 r3] [] 1 Tryd.isAgg24 Tryd.sizeOf24 (opt 0 rfl) rfl rfl rfl) rfl)⟩, ⟨rfl, fun β => (GOk.plain (op_move (opt 0 rfl)) rfl)⟩, ⟨rfl, fun β => (GOk.plain (op_call Tryd.call40 (digest_Log_note_ok hr5) ⟨(opt 0 rfl), (opt 1 rfl), (opt 2 rfl), trivial⟩) rfl)⟩, trivial⟩
  clear h
  intro β a w h
  change SatL c [.slot 6 (lpVP p1 0), .slot 8 (lpVP p4 0), .res (lb p1 24 [bytesCk 32 (List.replicate 32 0)]), .res (lb p4 24 [bytesCk 32 r3]), .res (Log_e p_0 r5)] a w at h
  clear β
  show Code.wp Tryd.prog _ _ a w
  refine wp_seq ?_
  refine region_do (n := 20) [.slot 19 100000 100000 (fun _ _ => (aggVP [bytesCk 32 r3])),
      .res 100000 100000 (fun _ _ => (lb p1 24 [bytesCk 32 r3]))] [0, 1] [⟨[1, 3], [], [5], [], some 19⟩, ⟨[0, 5], [2], [6], [0], none⟩] [0, 6, 4] mixed hn hG h (by kernel_rfl) ?_ ?_
  · exact ⟨⟨rfl, fun β => (GOk.plain (op_load_lb [] [bytesCk 32 r3] [] 1 Tryd.isAgg24 Tryd.sizeOf24 (opt 0 rfl) rfl rfl rfl) rfl)⟩, ⟨rfl, fun β => (GOk.plain (op_store_lb [] [bytesCk 32 (List.replicate 32 0)] [] [bytesCk 32 r3] Tryd.sizeOf24 (opt 0 rfl) (opt 1 rfl) (cells_agg _) rfl rfl rfl) rfl)⟩, trivial⟩
  clear h
  intro β a w h
  change SatL c [.slot 6 (lpVP p1 0), .res (lb p1 24 [bytesCk 32 r3]), .res (Log_e p_0 r5)] a w at h
  clear β
  show Code.wp Tryd.prog _ _ a w
  refine wp_ret ?_
  obtain rfl := Option.some.inj hF
  exact ⟨.inl rfl, ret1 h Tryd.results14 (r_cell 0 1 rfl rfl Tryd.isAgg24 Tryd.sizeOf24 rfl) [2] [(Log_e p_0 r5)] rfl rfl rfl⟩

def wire_Digest (a_0 : List UInt8) : Option (List UInt8) := some (a_0.take ((32 : Int).toNat - (0 : Int).toNat))
theorem wire_Digest_ok {a_0 : List UInt8} {r : (List UInt8)} (hF : wire_Digest a_0 = some r) : CallOk Tryd.prog KG 41 [(aggVP [bytesCk 32 a_0])] [] (fun _ => []) (strVP r) := by
  refine CallOk.intro 5 Tryd.func41 rfl Tryd.ntmps41 (Nat.le_of_ble_eq_true rfl) ?_
  intro c a w hG hn h
  unfold wire_Digest at hF
  change SatL c [.slot 0 (aggVP [bytesCk 32 a_0])] a w at h
  refine wp_seq ?_
  refine region_do (n := 5) [.slot 1 0 100000 (fun v1_ _ => (lpVP v1_ 0)),
      .res 0 100000 (fun v1_ _ => (lb (v1_) 24 [bytesCk 32 a_0])),
      .slot 2 100000 100000 (fun _ _ => (strVP []))] [0, 0, 1] [⟨[0], [], [1, 2], [], some 1⟩, ⟨[], [], [3], [0], some 2⟩] [1, 2] mixed hn hG h (by kernel_rfl) ?_ ?_
  · exact ⟨⟨rfl, fun β => (GOk.plain (op_box (opt 0 rfl) (cells_agg _)) rfl)⟩, ⟨rfl, fun β => (GOk.plain (op_assign (opc (sc _ (by decide)))) rfl)⟩, trivial⟩
  clear h
  intro β a w h
  change SatL c [.slot 1 (lpVP (β 0) 0), .res (lb (β 0) 24 [bytesCk 32 a_0])] a w at h
  generalize β 0 = p1 at h
  clear β
  show Code.wp Tryd.prog _ _ a w
  refine wp_seq ?_
  refine region_do (n := 5) [.slot 3 100000 100000 (fun _ _ => (lslVP p1 (0 + (0 : Int).toNat * 1) ((32 : Int).toNat - (0 : Int).toNat) (32 - (0 : Int).toNat))),
      .slot 4 100000 100000 (fun _ _ => (strVP (a_0.take ((32 : Int).toNat - (0 : Int).toNat)))),
      .slot 2 100000 100000 (fun _ _ => (strVP (a_0.take ((32 : Int).toNat - (0 : Int).toNat))))] [0, 1, 2] [⟨[0], [], [2], [], some 3⟩, ⟨[2, 1], [], [3], [0], some 4⟩, ⟨[3], [], [4], [0, 1], some 2⟩] [4] mixed hn hG h (by kernel_rfl) ?_ ?_
  · exact ⟨⟨rfl, fun β => (GOk.plain (op_slice_lb (a := 0) (b := 32) Tryd.underlying24 Tryd.sizeOf5 (opt 0 rfl) rfl rfl (by decide)) rfl)⟩, ⟨rfl, fun β => (GOk.plain (op_str_lsl [] [] 1 Tryd.underlying79 Tryd.underlying5 Tryd.underlying9 (opt 0 rfl) rfl rfl (by decide) (by decide)) rfl)⟩, ⟨rfl, fun β => (GOk.plain (op_assign (opt 0 rfl)) rfl)⟩, trivial⟩
  clear h
  intro β a w h
  change SatL c [.slot 2 (strVP (a_0.take ((32 : Int).toNat - (0 : Int).toNat)))] a w at h
  clear β
  show Code.wp Tryd.prog _ _ a w
  refine wp_ret ?_
  obtain rfl := Option.some.inj hF
  exact ⟨.inl rfl, ret1 h Tryd.results41 (r_tmp 0 rfl) [] [] rfl rfl rfl⟩

def lamport_Bit.j1 (a_0 : List UInt8) (a_1 : Int) (x2 : Bool) : Option Int := (if x2 = true then some 0 else (if (0 : Int) ≤ IntKind.wrap .i64 (a_1.tdiv 8) ∧ IntKind.wrap .i64 (a_1.tdiv 8) < 32 then (if (0 : Int) ≤ IntKind.wrap .i64 (7 - (a_1.tmod 8)) then some (bits .and .i64 (IntKind.wrap .i64 (shr .u8 ((a_0.getD (IntKind.wrap .i64 (a_1.tdiv 8)).toNat 0).toNat) (IntKind.wrap .i64 (7 - (a_1.tmod 8))))) 1) else none) else none))
def lamport_Bit (a_0 : List UInt8) (a_1 : Int) : Option Int := (if (decide (a_1 < (0 : Int))) = true then lamport_Bit.j1 a_0 a_1 true else lamport_Bit.j1 a_0 a_1 (decide ((256 : Int) ≤ a_1)))
theorem lamport_Bit_ok {a_0 : List UInt8} {a_1 : Int} {r : Int} (hF : lamport_Bit a_0 a_1 = some r) : CallOk Tryd.prog KG 29 [(aggVP [bytesCk 32 a_0]), (intVP .i64 a_1)] [] (fun _ => []) (intVP .i64 r) := by
  refine CallOk.intro 21 Tryd.func29 rfl Tryd.ntmps29 (Nat.le_of_ble_eq_true rfl) ?_
  intro c a w hG hn h
  unfold lamport_Bit at hF
  change SatL c [.slot 0 (aggVP [bytesCk 32 a_0]), .slot 1 (intVP .i64 a_1)] a w at h
  refine wp_seq ?_
  refine region_do (n := 21) [.slot 2 0 100000 (fun v1_ _ => (lpVP v1_ 0)),
      .res 0 100000 (fun v1_ _ => (lb (v1_) 24 [bytesCk 32 a_0])),
      .slot 4 100000 100000 (fun _ _ => (intVP .i64 0))] [0, 0, 1] [⟨[0], [], [2, 3], [], some 2⟩, ⟨[], [], [4], [0], some 4⟩] [1, 2, 3] mixed hn hG h (by kernel_rfl) ?_ ?_
  · exact ⟨⟨rfl, fun β => (GOk.plain (op_box (opt 0 rfl) (cells_agg _)) rfl)⟩, ⟨rfl, fun β => (GOk.plain (op_assign (opc (ic (by decide)))) rfl)⟩, trivial⟩
  clear h
  intro β a w h
  change SatL c [.slot 1 (intVP .i64 a_1), .slot 2 (lpVP (β 0) 0), .res (lb (β 0) 24 [bytesCk 32 a_0])] a w at h
  generalize β 0 = p1 at h
  clear β
  show Code.wp Tryd.prog _ _ a w
  refine wp_seq ?_
  refine wp_seq ?_
  refine wp_cut (fun a w => ∃ (x2 : Bool), lamport_Bit.j1 a_0 a_1 x2 = some r ∧ SatL c [.slot 1 (intVP .i64 a_1), .slot 2 (lpVP p1 0), .slot 10 (boolVP x2), .res (lb p1 24 [bytesCk 32 a_0])] a w) ?_ ?_
  · rcases Bool.eq_false_or_eq_true (decide (a_1 < (0 : Int))) with hb6 | hb6
    · replace hF := tt_of hb6 hF
      refine region_do (n := 21) [.slot 5 100000 100000 (fun _ _ => (intVP .i64 a_1)),
      .slot 6 100000 100000 (fun _ _ => (boolVP (decide (a_1 < (0 : Int))))),
      .slot 7 100000 100000 (fun _ _ => (boolVP (decide (a_1 < (0 : Int))))),
      .slot 8 100000 100000 (fun _ _ => (eqVP undef)),
      .slot 9 100000 100000 (fun _ _ => (eqVP undef)),
      .slot 10 100000 100000 (fun _ _ => (boolVP true))] [0, 1, 2, 3, 4, 5] [⟨[0], [], [3], [], some 5⟩, ⟨[3], [], [4], [0], some 6⟩, ⟨[4], [], [5], [0, 1], some 7⟩, ⟨[5], [], [6], [0, 1, 2], some 8⟩, ⟨[5], [], [7], [0, 1, 2, 3], some 9⟩, ⟨[5], [], [8], [0, 1, 2, 3, 4], some 10⟩] [0, 1, 8, 2] mixed hn hG h (by kernel_rfl) ?_ ?_
      · exact ⟨⟨rfl, fun β => (GOk.plain (op_move (opt 0 rfl)) rfl)⟩, ⟨rfl, fun β => (GOk.plain (op_bin bin_lss (opt 0 rfl) (opc (ic (by decide)))) rfl)⟩, ⟨rfl, fun β => (GOk.plain (op_move (opt 0 rfl)) rfl)⟩, ⟨rfl, fun β => (GOk.off_v (want := false) hb6 rfl rfl rfl rfl)⟩, ⟨rfl, fun β => (GOk.off_v (want := false) hb6 rfl rfl rfl rfl)⟩, ⟨rfl, fun β => (GOk.plain (op_pick_t hb6 (opt 0 rfl) (opc (bc _))) rfl)⟩, trivial⟩
      clear h
      intro β a w h
      change SatL c [.slot 1 (intVP .i64 a_1), .slot 2 (lpVP p1 0), .slot 10 (boolVP true), .res (lb p1 24 [bytesCk 32 a_0])] a w at h
      clear β
      exact ⟨true, hF, h.sub [0, 1, 2, 3] (by rfl)⟩
    · replace hF := ff_of hb6 hF
      refine region_do (n := 21) [.slot 5 100000 100000 (fun _ _ => (intVP .i64 a_1)),
      .slot 6 100000 100000 (fun _ _ => (boolVP (decide (a_1 < (0 : Int))))),
      .slot 7 100000 100000 (fun _ _ => (boolVP (decide (a_1 < (0 : Int))))),
      .slot 8 100000 100000 (fun _ _ => (intVP .i64 a_1)),
      .slot 9 100000 100000 (fun _ _ => (boolVP (decide ((256 : Int) ≤ a_1)))),
      .slot 10 100000 100000 (fun _ _ => (boolVP (decide ((256 : Int) ≤ a_1))))] [0, 1, 2, 3, 4, 5] [⟨[0], [], [3], [], some 5⟩, ⟨[3], [], [4], [0], some 6⟩, ⟨[4], [], [5], [0, 1], some 7⟩, ⟨[5, 0], [], [6], [0, 1, 2], some 8⟩, ⟨[5, 6], [], [7], [0, 1, 2, 3], some 9⟩, ⟨[5, 7], [], [8], [0, 1, 2, 3, 4], some 10⟩] [0, 1, 8, 2] mixed hn hG h (by kernel_rfl) ?_ ?_
      · exact ⟨⟨rfl, fun β => (GOk.plain (op_move (opt 0 rfl)) rfl)⟩, ⟨rfl, fun β => (GOk.plain (op_bin bin_lss (opt 0 rfl) (opc (ic (by decide)))) rfl)⟩, ⟨rfl, fun β => (GOk.plain (op_move (opt 0 rfl)) rfl)⟩, ⟨rfl, fun β => (GOk.on_eq hb6 rfl rfl rfl (op_move (opt 0 rfl)))⟩, ⟨rfl, fun β => (GOk.on_eq hb6 rfl rfl rfl (op_bin bin_geq (opt 0 rfl) (opc (ic (by decide)))))⟩, ⟨rfl, fun β => (GOk.plain (op_pick_f hb6 (opt 0 rfl) (opt 1 rfl)) rfl)⟩, trivial⟩
      clear h
      intro β a w h
      change SatL c [.slot 1 (intVP .i64 a_1), .slot 2 (lpVP p1 0), .slot 10 (boolVP (decide ((256 : Int) ≤ a_1))), .res (lb p1 24 [bytesCk 32 a_0])] a w at h
      clear β
      exact ⟨decide ((256 : Int) ≤ a_1), hF, h.sub [0, 1, 2, 3] (by rfl)⟩
  · clear h hF
    rintro a w ⟨x2, hF, h⟩
    unfold lamport_Bit.j1 at hF
    show Code.wp Tryd.prog _ _ a w
    refine cond_L h 2 rfl (fun hb3 => ?_) (fun hb3 => ?_)
    · replace hF := tt_of hb3 hF
      replace h := h.sub [] (by rfl)
      change SatL c [] a w at h
      refine wp_seq ?_
      refine region_do (n := 21) [.slot 4 100000 100000 (fun _ _ => (intVP .i64 0))] [0] [⟨[], [], [0], [], some 4⟩] [0] mixed hn hG h (by kernel_rfl) ?_ ?_
      · exact ⟨⟨rfl, fun β => (GOk.plain (op_assign (opc (ic (by decide)))) rfl)⟩, trivial⟩
      clear h
      intro β a w h
      change SatL c [.slot 4 (intVP .i64 0)] a w at h
      clear β
      show Code.wp Tryd.prog _ _ a w
      refine wp_ret ?_
      obtain rfl := Option.some.inj hF
      exact ⟨.inl rfl, ret1 h Tryd.results29 (r_tmp 0 rfl) [] [] rfl rfl rfl⟩
    · replace hF := ff_of hb3 hF
      replace h := h.sub [0, 1, 3] (by rfl)
      change SatL c [.slot 1 (intVP .i64 a_1), .slot 2 (lpVP p1 0), .res (lb p1 24 [bytesCk 32 a_0])] a w at h
      refine wp_skip ?_
      show Code.wp Tryd.prog _ _ a w
      refine wp_seq ?_
      obtain ⟨hv4, hF⟩ := ite_some hF
      obtain ⟨hv5, hF⟩ := ite_some hF
      refine region_do (n := 21) [.slot 11 100000 100000 (fun _ _ => (intVP .i64 a_1)),
      .slot 12 100000 100000 (fun _ _ => (intVP .i64 (IntKind.wrap .i64 (a_1.tdiv 8)))),
      .slot 13 100000 100000 (fun _ _ => (lpVP p1 (0 + (IntKind.wrap .i64 (a_1.tdiv 8)).toNat * 1))),
      .slot 14 100000 100000 (fun _ _ => (intVP .u8 ((a_0.getD (IntKind.wrap .i64 (a_1.tdiv 8)).toNat 0).toNat))),
      .slot 15 100000 100000 (fun _ _ => (intVP .i64 a_1)),
      .slot 16 100000 100000 (fun _ _ => (intVP .i64 (a_1.tmod 8))),
      .slot 17 100000 100000 (fun _ _ => (intVP .i64 (IntKind.wrap .i64 (7 - (a_1.tmod 8))))),
      .slot 18 100000 100000 (fun _ _ => (intVP .u8 (shr .u8 ((a_0.getD (IntKind.wrap .i64 (a_1.tdiv 8)).toNat 0).toNat) (IntKind.wrap .i64 (7 - (a_1.tmod 8)))))),
      .slot 19 100000 100000 (fun _ _ => (intVP .i64 (IntKind.wrap .i64 (shr .u8 ((a_0.getD (IntKind.wrap .i64 (a_1.tdiv 8)).toNat 0).toNat) (IntKind.wrap .i64 (7 - (a_1.tmod 8))))))),
      .slot 20 100000 100000 (fun _ _ => (intVP .i64 (bits .and .i64 (IntKind.wrap .i64 (shr .u8 ((a_0.getD (IntKind.wrap .i64 (a_1.tdiv 8)).toNat 0).toNat) (IntKind.wrap .i64 (7 - (a_1.tmod 8))))) 1))),
      .slot 4 100000 100000 (fun _ _ => (intVP .i64 (bits .and .i64 (IntKind.wrap .i64 (shr .u8 ((a_0.getD (IntKind.wrap .i64 (a_1.tdiv 8)).toNat 0).toNat) (IntKind.wrap .i64 (7 - (a_1.tmod 8))))) 1)))] [0, 1, 2, 3, 4, 5, 6, 7, 8, 9, 10] [⟨[0], [], [3], [], some 11⟩, ⟨[3], [], [4], [0], some 12⟩, ⟨[1, 4], [], [5], [0, 1], some 13⟩, ⟨[5, 2], [], [6], [0, 1, 2], some 14⟩, ⟨[0], [], [7], [0, 1, 2, 3], some 15⟩, ⟨[7], [], [8], [0, 1, 2, 3, 4], some 16⟩, ⟨[8], [], [9], [0, 1, 2, 3, 4, 5], some 17⟩, ⟨[6, 9], [], [10], [0, 1, 2, 3, 4, 5, 6], some 18⟩, ⟨[10], [], [11], [0, 1, 2, 3, 4, 5, 6, 7], some 19⟩, ⟨[11], [], [12], [0, 1, 2, 3, 4, 5, 6, 7, 8], some 20⟩, ⟨[12], [], [13], [0, 1, 2, 3, 4, 5, 6, 7, 8, 9], some 4⟩] [13] mixed hn hG h (by kernel_rfl) ?_ ?_
      · exact ⟨⟨rfl, fun β => (GOk.plain (op_move (opt 0 rfl)) rfl)⟩, ⟨rfl, fun β => (GOk.plain (op_bin (bin_quo (by decide)) (opt 0 rfl) (opc (ic (by decide)))) rfl)⟩, ⟨rfl, fun β => (GOk.plain (op_indexAddr_lb Tryd.underlying24 Tryd.sizeOf5 (opt 0 rfl) (opt 1 rfl) hv4) rfl)⟩, ⟨rfl, fun β => (GOk.plain (op_load_lbB (i := IntKind.wrap .i64 (a_1.tdiv 8)) [] [] 1 Tryd.isAgg5 (opt 0 rfl) rfl rfl hv4) rfl)⟩, ⟨rfl, fun β => (GOk.plain (op_move (opt 0 rfl)) rfl)⟩, ⟨rfl, fun β => (GOk.plain (op_bin (bin_rem (by decide)) (opt 0 rfl) (opc (ic (by decide)))) rfl)⟩, ⟨rfl, fun β => (GOk.plain (op_bin bin_sub (opc (ic (by decide))) (opt 0 rfl)) rfl)⟩, ⟨rfl, fun β => (GOk.plain (op_bin (bin_shr hv5) (opt 0 rfl) (opt 1 rfl)) rfl)⟩, ⟨rfl, fun β => (GOk.plain (op_convert_int Tryd.underlying5 Tryd.underlying3 (opt 0 rfl)) rfl)⟩, ⟨rfl, fun β => (GOk.plain (op_bin bin_and (opt 0 rfl) (opc (ic (by decide)))) rfl)⟩, ⟨rfl, fun β => (GOk.plain (op_assign (opt 0 rfl)) rfl)⟩, trivial⟩
      clear h
      intro β a w h
      change SatL c [.slot 4 (intVP .i64 (bits .and .i64 (IntKind.wrap .i64 (shr .u8 ((a_0.getD (IntKind.wrap .i64 (a_1.tdiv 8)).toNat 0).toNat) (IntKind.wrap .i64 (7 - (a_1.tmod 8))))) 1))] a w at h
      clear β
      show Code.wp Tryd.prog _ _ a w
      refine wp_ret ?_
      obtain rfl := Option.some.inj hF
      exact ⟨.inl rfl, ret1 h Tryd.results29 (r_tmp 0 rfl) [] [] rfl rfl rfl⟩

def lamport_Secret (L_0 : Option O_Log) (a_1 : List UInt8) (a_2 : Int) (a_3 : Int) (a_4 : Int) : Option ((List UInt8) × (Option O_Log)) := ((wire_Digest a_1).bind fun r3 => ((wire_Word (IntKind.wrap .u32 a_2)).bind fun r4 => ((wire_Byte (IntKind.wrap .u8 a_3)).bind fun r5 => ((wire_Byte (IntKind.wrap .u8 a_4)).bind fun r6 => ((digest_Log_Of L_0 1 [r3, r4, r5, r6]).bind fun r7 => some (r7.1, r7.2))))))
theorem lamport_Secret_ok {p_0 : Value} {L_0 : Option O_Log} {a_1 : List UInt8} {a_2 : Int} {a_3 : Int} {a_4 : Int} {r : (List UInt8) × (Option O_Log)} (hF : lamport_Secret L_0 a_1 a_2 a_3 a_4 = some r) : CallOk Tryd.prog KG 31 [(eqVP p_0), (aggVP [bytesCk 32 a_1]), (intVP .i64 a_2), (intVP .i64 a_3), (intVP .i64 a_4)] [(Log_e p_0 L_0)] (fun _ => [Log_e p_0 r.2]) (aggVP [bytesCk 32 r.1]) := by
  refine CallOk.intro 25 Tryd.func31 rfl Tryd.ntmps31 (Nat.le_of_ble_eq_true rfl) ?_
  intro c a w hG hn h
  unfold lamport_Secret at hF
  change SatL c [.slot 0 (eqVP p_0), .slot 1 (aggVP [bytesCk 32 a_1]), .slot 2 (intVP .i64 a_2), .slot 3 (intVP .i64 a_3), .slot 4 (intVP .i64 a_4), .res (Log_e p_0 L_0)] a w at h
  refine wp_seq ?_
  refine region_do (n := 25) [.slot 6 0 100000 (fun v1_ _ => (lpVP v1_ 0)),
      .res 0 100000 (fun v1_ _ => (lb (v1_) 24 [bytesCk 32 a_1])),
      .slot 10 1 100000 (fun v1_ _ => (lpVP v1_ 0)),
      .res 1 100000 (fun v1_ _ => (lb (v1_) 24 [bytesCk 32 (List.replicate 32 0)]))] [0, 0, 1, 1] [⟨[1], [], [6, 7], [], some 6⟩, ⟨[], [], [8, 9], [0], some 10⟩] [0, 2, 3, 4, 6, 8, 5, 7, 9] mixed hn hG h (by kernel_rfl) ?_ ?_
  · exact ⟨⟨rfl, fun β => (GOk.plain (op_box (opt 0 rfl) (cells_agg _)) rfl)⟩, ⟨rfl, fun β => (GOk.plain (op_alloc Tryd.zeroValue24 z24) rfl)⟩, trivial⟩
  clear h
  intro β a w h
  change SatL c [.slot 0 (eqVP p_0), .slot 2 (intVP .i64 a_2), .slot 3 (intVP .i64 a_3), .slot 4 (intVP .i64 a_4), .slot 6 (lpVP (β 0) 0), .slot 10 (lpVP (β 1) 0), .res (Log_e p_0 L_0), .res (lb (β 0) 24 [bytesCk 32 a_1]), .res (lb (β 1) 24 [bytesCk 32 (List.replicate 32 0)])] a w at h
  generalize β 0 = p1 at h
  generalize β 1 = p2 at h
  clear β
  show Code.wp Tryd.prog _ _ a w
  refine wp_seq ?_
  obtain ⟨r3, hr3, hF⟩ := bind_some hF
  obtain ⟨r4, hr4, hF⟩ := bind_some hF
  obtain ⟨r5, hr5, hF⟩ := bind_some hF
  obtain ⟨r6, hr6, hF⟩ := bind_some hF
  obtain ⟨r7, hr7, hF⟩ := bind_some hF
  refine region_do (n := 25) [.slot 11 100000 100000 (fun _ _ => (eqVP p_0)),
      .slot 12 100000 100000 (fun _ _ => (aggVP [bytesCk 32 a_1])),
      .slot 13 100000 100000 (fun _ _ => (strVP r3)),
      .slot 14 100000 100000 (fun _ _ => (intVP .i64 a_2)),
      .slot 15 100000 100000 (fun _ _ => (intVP .u32 (IntKind.wrap .u32 a_2))),
      .slot 16 100000 100000 (fun _ _ => (strVP r4)),
      .slot 17 100000 100000 (fun _ _ => (intVP .i64 a_3)),
      .slot 18 100000 100000 (fun _ _ => (intVP .u8 (IntKind.wrap .u8 a_3))),
      .slot 19 100000 100000 (fun _ _ => (strVP r5)),
      .slot 20 100000 100000 (fun _ _ => (intVP .i64 a_4)),
      .slot 21 100000 100000 (fun _ _ => (intVP .u8 (IntKind.wrap .u8 a_4))),
      .slot 22 100000 100000 (fun _ _ => (strVP r6)),
      .slot 23 100000 100000 (fun _ _ => (slVP strC [r3, r4, r5, r6])),
      .slot 24 100000 100000 (fun _ _ => (aggVP [bytesCk 32 r7.1])),
      .res 100000 100000 (fun _ _ => (Log_e p_0 r7.2)),
      .res 100000 100000 (fun _ _ => (lb p2 24 [bytesCk 32 r7.1]))] [0, 1, 2, 3, 4, 5, 6, 7, 8, 9, 10, 11, 12, 13, 13, 14] [⟨[0], [], [9], [], some 11⟩, ⟨[4, 7], [], [10], [0], some 12⟩, ⟨[10], [], [11], [0, 1], some 13⟩, ⟨[1], [], [12], [0, 1, 2], some 14⟩, ⟨[12], [], [13], [0, 1, 2, 3], some 15⟩, ⟨[13], [], [14], [0, 1, 2, 3, 4], some 16⟩, ⟨[2], [], [15], [0, 1, 2, 3, 4, 5], some 17⟩, ⟨[15], [], [16], [0, 1, 2, 3, 4, 5, 6], some 18⟩, ⟨[16], [], [17], [0, 1, 2, 3, 4, 5, 6, 7], some 19⟩, ⟨[3], [], [18], [0, 1, 2, 3, 4, 5, 6, 7, 8], some 20⟩, ⟨[18], [], [19], [0, 1, 2, 3, 4, 5, 6, 7, 8, 9], some 21⟩, ⟨[19], [], [20], [0, 1, 2, 3, 4, 5, 6, 7, 8, 9, 10], some 22⟩, ⟨[11, 14, 17, 20], [], [21], [0, 1, 2, 3, 4, 5, 6, 7, 8, 9, 10, 11], some 23⟩, ⟨[9, 21], [6], [22, 23], [0, 1, 2, 3, 4, 5, 6, 7, 8, 9, 10, 11, 12], some 24⟩, ⟨[5, 22], [8], [24], [0, 1, 2, 3, 4, 5, 6, 7, 8, 9, 10, 11, 12, 13], none⟩] [5, 24, 23] mixed hn hG h (by kernel_rfl) ?_ ?_
  · exact ⟨⟨rfl, fun β => (GOk.plain (op_move (opt 0 rfl)) rfl)⟩, ⟨rfl, fun β => (GOk.plain (op_load_lb [] [bytesCk 32 a_1] [] 1 Tryd.isAgg24 Tryd.sizeOf24 (opt 0 rfl) rfl rfl rfl) rfl)⟩, ⟨rfl, fun β => (GOk.plain (op_call Tryd.call41 (wire_Digest_ok hr3) ⟨(opt 0 rfl), trivial⟩) rfl)⟩, ⟨rfl, fun β => (GOk.plain (op_move (opt 0 rfl)) rfl)⟩, ⟨rfl, fun β => (GOk.plain (op_convert_int Tryd.underlying3 Tryd.underlying81 (opt 0 rfl)) rfl)⟩, ⟨rfl, fun β => (GOk.plain (op_call Tryd.call47 (wire_Word_ok hr4) ⟨(opt 0 rfl), trivial⟩) rfl)⟩, ⟨rfl, fun β => (GOk.plain (op_move (opt 0 rfl)) rfl)⟩, ⟨rfl, fun β => (GOk.plain (op_convert_int Tryd.underlying3 Tryd.underlying5 (opt 0 rfl)) rfl)⟩, ⟨rfl, fun β => (GOk.plain (op_call Tryd.call48 (wire_Byte_ok hr5) ⟨(opt 0 rfl), trivial⟩) rfl)⟩, ⟨rfl, fun β => (GOk.plain (op_move (opt 0 rfl)) rfl)⟩, ⟨rfl, fun β => (GOk.plain (op_convert_int Tryd.underlying3 Tryd.underlying5 (opt 0 rfl)) rfl)⟩, ⟨rfl, fun β => (GOk.plain (op_call Tryd.call48 (wire_Byte_ok hr6) ⟨(opt 0 rfl), trivial⟩) rfl)⟩, ⟨rfl, fun β => (GOk.plain (op_lit (xs := [.tmp 13, .tmp 16, .tmp 19, .tmp 22]) (ys := [r3, r4, r5, r6]) _ rfl Tryd.underlying22 Tryd.sizeOf9 Tryd.zeroValue9 rfl rfl (by decide) (by decide) ⟨⟨_, (opt 0 rfl), (cells_one (one_str _))⟩, ⟨_, (opt 1 rfl), (cells_one (one_str _))⟩, ⟨_, (opt 2 rfl), (cells_one (one_str _))⟩, ⟨_, (opt 3 rfl), (cells_one (one_str _))⟩, trivial⟩ lens_strC) rfl)⟩, ⟨rfl, fun β => (GOk.plain (op_call Tryd.call14 (digest_Log_Of_ok hr7) ⟨(opt 0 rfl), (opc (ic (by decide))), (opt 1 rfl), trivial⟩) rfl)⟩, ⟨rfl, fun β => (GOk.plain (op_store_lb [] [bytesCk 32 (List.replicate 32 0)] [] [bytesCk 32 r7.1] Tryd.sizeOf24 (opt 0 rfl) (opt 1 rfl) (cells_agg _) rfl rfl rfl) rfl)⟩, trivial⟩
  clear h
  intro β a w h
  change SatL c [.slot 10 (lpVP p2 0), .res (lb p2 24 [bytesCk 32 r7.1]), .res (Log_e p_0 r7.2)] a w at h
  clear β
  show Code.wp Tryd.prog _ _ a w
  refine wp_ret ?_
  obtain rfl := Option.some.inj hF
  exact ⟨.inl rfl, ret1 h Tryd.results31 (r_cell 0 1 rfl rfl Tryd.isAgg24 Tryd.sizeOf24 rfl) [2] [(Log_e p_0 r7.2)] rfl rfl rfl⟩

def lamport_Public (L_0 : Option O_Log) (a_1 : List UInt8) : Option ((List UInt8) × (Option O_Log)) := ((wire_Digest a_1).bind fun r3 => ((digest_Log_Of L_0 2 [r3]).bind fun r4 => some (r4.1, r4.2)))
theorem lamport_Public_ok {p_0 : Value} {L_0 : Option O_Log} {a_1 : List UInt8} {r : (List UInt8) × (Option O_Log)} (hF : lamport_Public L_0 a_1 = some r) : CallOk Tryd.prog KG 34 [(eqVP p_0), (aggVP [bytesCk 32 a_1])] [(Log_e p_0 L_0)] (fun _ => [Log_e p_0 r.2]) (aggVP [bytesCk 32 r.1]) := by
  refine CallOk.intro 10 Tryd.func34 rfl Tryd.ntmps34 (Nat.le_of_ble_eq_true rfl) ?_
  intro c a w hG hn h
  unfold lamport_Public at hF
  change SatL c [.slot 0 (eqVP p_0), .slot 1 (aggVP [bytesCk 32 a_1]), .res (Log_e p_0 L_0)] a w at h
  refine wp_seq ?_
  refine region_do (n := 10) [.slot 3 0 100000 (fun v1_ _ => (lpVP v1_ 0)),
      .res 0 100000 (fun v1_ _ => (lb (v1_) 24 [bytesCk 32 a_1])),
      .slot 4 1 100000 (fun v1_ _ => (lpVP v1_ 0)),
      .res 1 100000 (fun v1_ _ => (lb (v1_) 24 [bytesCk 32 (List.replicate 32 0)]))] [0, 0, 1, 1] [⟨[1], [], [3, 4], [], some 3⟩, ⟨[], [], [5, 6], [0], some 4⟩] [0, 3, 5, 2, 4, 6] mixed hn hG h (by kernel_rfl) ?_ ?_
  · exact ⟨⟨rfl, fun β => (GOk.plain (op_box (opt 0 rfl) (cells_agg _)) rfl)⟩, ⟨rfl, fun β => (GOk.plain (op_alloc Tryd.zeroValue24 z24) rfl)⟩, trivial⟩
  clear h
  intro β a w h
  change SatL c [.slot 0 (eqVP p_0), .slot 3 (lpVP (β 0) 0), .slot 4 (lpVP (β 1) 0), .res (Log_e p_0 L_0), .res (lb (β 0) 24 [bytesCk 32 a_1]), .res (lb (β 1) 24 [bytesCk 32 (List.replicate 32 0)])] a w at h
  generalize β 0 = p1 at h
  generalize β 1 = p2 at h
  clear β
  show Code.wp Tryd.prog _ _ a w
  refine wp_seq ?_
  obtain ⟨r3, hr3, hF⟩ := bind_some hF
  obtain ⟨r4, hr4, hF⟩ := bind_some hF
  refine region_do (n := 10) [.slot 5 100000 100000 (fun _ _ => (eqVP p_0)),
      .slot 6 100000 100000 (fun _ _ => (aggVP [bytesCk 32 a_1])),
      .slot 7 100000 100000 (fun _ _ => (strVP r3)),
      .slot 8 100000 100000 (fun _ _ => (slVP strC [r3])),
      .slot 9 100000 100000 (fun _ _ => (aggVP [bytesCk 32 r4.1])),
      .res 100000 100000 (fun _ _ => (Log_e p_0 r4.2)),
      .res 100000 100000 (fun _ _ => (lb p2 24 [bytesCk 32 r4.1]))] [0, 1, 2, 3, 4, 4, 5] [⟨[0], [], [6], [], some 5⟩, ⟨[1, 4], [], [7], [0], some 6⟩, ⟨[7], [], [8], [0, 1], some 7⟩, ⟨[8], [], [9], [0, 1, 2], some 8⟩, ⟨[6, 9], [3], [10, 11], [0, 1, 2, 3], some 9⟩, ⟨[2, 10], [5], [12], [0, 1, 2, 3, 4], none⟩] [2, 12, 11] mixed hn hG h (by kernel_rfl) ?_ ?_
  · exact ⟨⟨rfl, fun β => (GOk.plain (op_move (opt 0 rfl)) rfl)⟩, ⟨rfl, fun β => (GOk.plain (op_load_lb [] [bytesCk 32 a_1] [] 1 Tryd.isAgg24 Tryd.sizeOf24 (opt 0 rfl) rfl rfl rfl) rfl)⟩, ⟨rfl, fun β => (GOk.plain (op_call Tryd.call41 (wire_Digest_ok hr3) ⟨(opt 0 rfl), trivial⟩) rfl)⟩, ⟨rfl, fun β => (GOk.plain (op_lit (xs := [.tmp 7]) (ys := [r3]) _ rfl Tryd.underlying22 Tryd.sizeOf9 Tryd.zeroValue9 rfl rfl (by decide) (by decide) ⟨⟨_, (opt 0 rfl), (cells_one (one_str _))⟩, trivial⟩ lens_strC) rfl)⟩, ⟨rfl, fun β => (GOk.plain (op_call Tryd.call14 (digest_Log_Of_ok hr4) ⟨(opt 0 rfl), (opc (ic (by decide))), (opt 1 rfl), trivial⟩) rfl)⟩, ⟨rfl, fun β => (GOk.plain (op_store_lb [] [bytesCk 32 (List.replicate 32 0)] [] [bytesCk 32 r4.1] Tryd.sizeOf24 (opt 0 rfl) (opt 1 rfl) (cells_agg _) rfl rfl rfl) rfl)⟩, trivial⟩
  clear h
  intro β a w h
  change SatL c [.slot 4 (lpVP p2 0), .res (lb p2 24 [bytesCk 32 r4.1]), .res (Log_e p_0 r4.2)] a w at h
  clear β
  show Code.wp Tryd.prog _ _ a w
  refine wp_ret ?_
  obtain rfl := Option.some.inj hF
  exact ⟨.inl rfl, ret1 h Tryd.results34 (r_cell 0 1 rfl rfl Tryd.isAgg24 Tryd.sizeOf24 rfl) [2] [(Log_e p_0 r4.2)] rfl rfl rfl⟩

def lamport_pair.b1 (a_1 : List (List UInt8)) (x10 : Int) (x11 : O_Bld) : Option (Flow ((List UInt8) × (Option O_Log)) (Int × O_Bld)) := (if (decide (x10 < (64 : Int))) = true then (if (0 : Int) ≤ x10 ∧ x10 < 64 then ((strings_Builder_Write x11 (((a_1.getD x10.toNat default).take (32 : Int).toNat).drop (0 : Int).toNat)).bind fun r21 => some (.cont (IntKind.wrap .i64 (x10 + 1), r21.2.2))) else none) else some (.brk (x10, x11)))
def lamport_pair (L_0 : Option O_Log) (a_1 : List (List UInt8)) : Option ((List UInt8) × (Option O_Log)) := ((loopN (fun s : Int × O_Bld => lamport_pair.b1 a_1 s.1 s.2) ((64 - 0 : Int).toNat + 2) (0, ⟨[]⟩)).bind fun cr => match cr with | .ret r => some r | .next (y26, y27) => ((strings_Builder_String y27).bind fun r28 => ((digest_Log_Of L_0 3 [r28]).bind fun r29 => some (r29.1, r29.2))))
theorem lamport_pair_ok {p_0 : Value} {L_0 : Option O_Log} {a_1 : List (List UInt8)} {r : (List UInt8) × (Option O_Log)} (hF : lamport_pair L_0 a_1 = some r) : CallOk Tryd.prog KG 46 [(eqVP p_0), (aggVP [arrCk 64 32 (dC 32) (lens_dC 32) a_1])] [(Log_e p_0 L_0)] (fun _ => [Log_e p_0 r.2]) (aggVP [bytesCk 32 r.1]) := by
  refine CallOk.intro 19 Tryd.func46 rfl Tryd.ntmps46 (Nat.le_of_ble_eq_true rfl) ?_
  intro c a w hG hn h
  unfold lamport_pair at hF
  change SatL c [.slot 0 (eqVP p_0), .slot 1 (aggVP [arrCk 64 32 (dC 32) (lens_dC 32) a_1]), .res (Log_e p_0 L_0)] a w at h
  refine wp_seq ?_
  refine region_do (n := 19) [.slot 3 0 100000 (fun v1_ _ => (lpVP v1_ 0)),
      .res 0 100000 (fun v1_ _ => (lb (v1_) 77 [arrCk 64 32 (dC 32) (lens_dC 32) a_1])),
      .slot 4 1 100000 (fun v1_ _ => (lpVP v1_ 0)),
      .res 1 100000 (fun v1_ _ => (lb (v1_) 24 [bytesCk 32 (List.replicate 32 0)]))] [0, 0, 1, 1] [⟨[1], [], [3, 4], [], some 3⟩, ⟨[], [], [5, 6], [0], some 4⟩] [0, 3, 5, 2, 4, 6] mixed hn hG h (by kernel_rfl) ?_ ?_
  · exact ⟨⟨rfl, fun β => (GOk.plain (op_box (opt 0 rfl) (cells_agg _)) rfl)⟩, ⟨rfl, fun β => (GOk.plain (op_alloc Tryd.zeroValue24 z24) rfl)⟩, trivial⟩
  clear h
  intro β a w h
  change SatL c [.slot 0 (eqVP p_0), .slot 3 (lpVP (β 0) 0), .slot 4 (lpVP (β 1) 0), .res (Log_e p_0 L_0), .res (lb (β 0) 77 [arrCk 64 32 (dC 32) (lens_dC 32) a_1]), .res (lb (β 1) 24 [bytesCk 32 (List.replicate 32 0)])] a w at h
  generalize β 0 = p1 at h
  generalize β 1 = p2 at h
  clear β
  show Code.wp Tryd.prog _ _ a w
  refine wp_seq ?_
  refine region_do (n := 19) [.slot 5 0 100000 (fun v1_ _ => (lpVP v1_ 0)),
      .res 0 100000 (fun v1_ _ => (lb (v1_) 93 [one (eqVP (.pointer none)), one (eqVP (.slice none 0 0))]))] [0, 0] [⟨[], [], [6, 7], [], some 5⟩] [0, 1, 2, 6, 3, 4, 5, 7] mixed hn hG h (by kernel_rfl) ?_ ?_
  · exact ⟨⟨rfl, fun β => (GOk.plain (op_alloc Tryd.zeroValue93 zo93) rfl)⟩, trivial⟩
  clear h
  intro β a w h
  change SatL c [.slot 0 (eqVP p_0), .slot 3 (lpVP p1 0), .slot 4 (lpVP p2 0), .slot 5 (lpVP (β 0) 0), .res (Log_e p_0 L_0), .res (lb p1 77 [arrCk 64 32 (dC 32) (lens_dC 32) a_1]), .res (lb p2 24 [bytesCk 32 (List.replicate 32 0)]), .res (lb (β 0) 93 [one (eqVP (.pointer none)), one (eqVP (.slice none 0 0))])] a w at h
  generalize β 0 = p3 at h
  clear β
  show Code.wp Tryd.prog _ _ a w
  refine wp_seq ?_
  refine wp_seq ?_
  refine region_do (n := 19) [.slot 8 100000 100000 (fun _ _ => (aggVP [arrCk 64 32 (dC 32) (lens_dC 32) a_1])),
      .slot 9 100000 100000 (fun _ _ => (intVP .i64 0))] [0, 1] [⟨[1, 5], [], [8], [], some 8⟩, ⟨[], [], [9], [0], some 9⟩] [0, 2, 3, 8, 9, 4, 6, 7] mixed hn hG h (by kernel_rfl) ?_ ?_
  · exact ⟨⟨rfl, fun β => (GOk.plain (op_load_lb [] [arrCk 64 32 (dC 32) (lens_dC 32) a_1] [] 1 Tryd.isAgg77 Tryd.sizeOf77 (opt 0 rfl) rfl rfl rfl) rfl)⟩, ⟨rfl, fun β => (GOk.plain (op_move (opc (ic (by decide)))) rfl)⟩, trivial⟩
  clear h
  intro β a w h
  change SatL c [.slot 0 (eqVP p_0), .slot 4 (lpVP p2 0), .slot 5 (lpVP p3 0), .slot 8 (aggVP [arrCk 64 32 (dC 32) (lens_dC 32) a_1]), .slot 9 (intVP .i64 0), .res (Log_e p_0 L_0), .res (lb p2 24 [bytesCk 32 (List.replicate 32 0)]), .res (lb p3 93 [one (eqVP (.pointer none)), one (eqVP (.slice none 0 0))])] a w at h
  clear β
  show Code.wp Tryd.prog _ _ a w
  refine wp_block ?_
  replace h := h.conv 7 rfl Bld_new
  replace h := h.slotc 2 rfl (fun _ _ h => lp_eqv h)
  replace h := h.sub [0, 1, 2, 3, 4, 5, 6, 7] (by rfl)
  change SatL c [.slot 0 (eqVP p_0), .slot 4 (lpVP p2 0), .slot 5 (eqVP p3), .slot 8 (aggVP [arrCk 64 32 (dC 32) (lens_dC 32) a_1]), .slot 9 (intVP .i64 0), .res (Log_e p_0 L_0), .res (lb p2 24 [bytesCk 32 (List.replicate 32 0)]), .res (Bld_e p3 (some ⟨[]⟩))] a w at h
  obtain ⟨cr22, hl23, hF⟩ := bind_some hF
  refine wp_mono (wp_loopN (R := (List UInt8) × (Option O_Log)) (S := Int × O_Bld) (fun s a w => SatL c [.slot 0 (eqVP p_0), .slot 4 (lpVP p2 0), .slot 5 (eqVP p3), .slot 8 (aggVP [arrCk 64 32 (dC 32) (lens_dC 32) a_1]), .slot 9 (intVP .i64 s.1), .res (Log_e p_0 L_0), .res (lb p2 24 [bytesCk 32 (List.replicate 32 0)]), .res (Bld_e p3 (some s.2))] a w) (fun res e a w => match res with | .next s => e = .exit 0 ∧ SatL c [.slot 0 (eqVP p_0), .slot 4 (lpVP p2 0), .slot 5 (eqVP p3), .res (Log_e p_0 L_0), .res (lb p2 24 [bytesCk 32 (List.replicate 32 0)]), .res (Bld_e p3 (some s.2))] a w | .ret r => e = .ret ∧ RetOk Tryd.prog Tryd.f46 c (aggVP [bytesCk 32 r.1]) (fun _ => [Log_e p_0 r.2]) a w) ?_ _ (0, ⟨[]⟩) _ _ _ (h.sub [0, 1, 2, 3, 4, 5, 6, 7] (by rfl)) hl23) ?_
  · clear hl23 hF h
    intro s a w o h hF
    obtain ⟨x10, x11⟩ := s
    change lamport_pair.b1 a_1 x10 x11 = some o at hF
    unfold lamport_pair.b1 at hF
    change SatL c [.slot 0 (eqVP p_0), .slot 4 (lpVP p2 0), .slot 5 (eqVP p3), .slot 8 (aggVP [arrCk 64 32 (dC 32) (lens_dC 32) a_1]), .slot 9 (intVP .i64 x10), .res (Log_e p_0 L_0), .res (lb p2 24 [bytesCk 32 (List.replicate 32 0)]), .res (Bld_e p3 (some x11))] a w at h
    refine wp_seq ?_
    refine region_do (n := 19) [.slot 10 100000 100000 (fun _ _ => (boolVP (decide (x10 < (64 : Int)))))] [0] [⟨[4], [], [8], [], some 10⟩] [0, 1, 2, 3, 4, 8, 5, 6, 7] mixed hn hG h (by kernel_rfl) ?_ ?_
    · exact ⟨⟨rfl, fun β => (GOk.plain (op_bin bin_lss (opt 0 rfl) (opc (ic (by decide)))) rfl)⟩, trivial⟩
    clear h
    intro β a w h
    change SatL c [.slot 0 (eqVP p_0), .slot 4 (lpVP p2 0), .slot 5 (eqVP p3), .slot 8 (aggVP [arrCk 64 32 (dC 32) (lens_dC 32) a_1]), .slot 9 (intVP .i64 x10), .slot 10 (boolVP (decide (x10 < (64 : Int)))), .res (Log_e p_0 L_0), .res (lb p2 24 [bytesCk 32 (List.replicate 32 0)]), .res (Bld_e p3 (some x11))] a w at h
    clear β
    show Code.wp Tryd.prog _ _ a w
    refine wp_seq ?_
    refine cond_L h 5 rfl (fun hb18 => ?_) (fun hb18 => ?_)
    · replace hF := tt_of hb18 hF
      replace h := h.sub [0, 1, 2, 3, 4, 6, 7, 8] (by rfl)
      change SatL c [.slot 0 (eqVP p_0), .slot 4 (lpVP p2 0), .slot 5 (eqVP p3), .slot 8 (aggVP [arrCk 64 32 (dC 32) (lens_dC 32) a_1]), .slot 9 (intVP .i64 x10), .res (Log_e p_0 L_0), .res (lb p2 24 [bytesCk 32 (List.replicate 32 0)]), .res (Bld_e p3 (some x11))] a w at h
      refine wp_skip ?_
      show Code.wp Tryd.prog _ _ a w
      refine wp_seq ?_
      refine wp_block ?_
      refine wp_seq ?_
      obtain ⟨hv19, hF⟩ := ite_some hF
      refine region_do (n := 19) [.slot 11 100000 100000 (fun _ _ => (aggVP [bytesCk 32 (a_1.getD x10.toNat default)])),
      .slot 7 1 100000 (fun v1_ _ => (lpVP v1_ 0)),
      .res 1 100000 (fun v1_ _ => (lb (v1_) 24 [bytesCk 32 (List.replicate 32 0)])),
      .res 1 100000 (fun v1_ _ => (lb (v1_) 24 [bytesCk 32 (a_1.getD x10.toNat default)]))] [0, 1, 1, 2] [⟨[3, 4], [], [8], [], some 11⟩, ⟨[], [], [9, 10], [0], some 7⟩, ⟨[9, 8], [10], [11], [0, 1], none⟩] [0, 1, 2, 9, 3, 4, 5, 6, 7, 11] mixed hn hG h (by kernel_rfl) ?_ ?_
      · exact ⟨⟨rfl, fun β => (GOk.plain (op_index_aggA (c := (dC 32)) Tryd.underlying77 Tryd.sizeOf24 Tryd.isAgg24 (opt 0 rfl) (opt 1 rfl) hv19) rfl)⟩, ⟨rfl, fun β => (GOk.plain (op_alloc Tryd.zeroValue24 z24) rfl)⟩, ⟨rfl, fun β => (GOk.plain (op_store_lb [] [bytesCk 32 (List.replicate 32 0)] [] [bytesCk 32 (a_1.getD x10.toNat default)] Tryd.sizeOf24 (opt 0 rfl) (opt 1 rfl) (cells_agg _) rfl rfl rfl) rfl)⟩, trivial⟩
      clear h
      intro β a w h
      change SatL c [.slot 0 (eqVP p_0), .slot 4 (lpVP p2 0), .slot 5 (eqVP p3), .slot 7 (lpVP (β 1) 0), .slot 8 (aggVP [arrCk 64 32 (dC 32) (lens_dC 32) a_1]), .slot 9 (intVP .i64 x10), .res (Log_e p_0 L_0), .res (lb p2 24 [bytesCk 32 (List.replicate 32 0)]), .res (Bld_e p3 (some x11)), .res (lb (β 1) 24 [bytesCk 32 (a_1.getD x10.toNat default)])] a w at h
      generalize β 1 = p20 at h
      clear β
      show Code.wp Tryd.prog _ _ a w
      replace h := h.publish 9 rfl
      replace h := h.factslot 3 9 rfl rfl
      replace h := h.sub [0, 1, 2, 3, 4, 5, 6, 7, 8] (by rfl)
      change SatL c [.slot 0 (eqVP p_0), .slot 4 (lpVP p2 0), .slot 5 (eqVP p3), .slot 7 (ppVP [bytesCk 32 (a_1.getD x10.toNat default)]), .slot 8 (aggVP [arrCk 64 32 (dC 32) (lens_dC 32) a_1]), .slot 9 (intVP .i64 x10), .res (Log_e p_0 L_0), .res (lb p2 24 [bytesCk 32 (List.replicate 32 0)]), .res (Bld_e p3 (some x11))] a w at h
      obtain ⟨r21, hr21, hF⟩ := bind_some hF
      refine region_do (n := 19) [.slot 12 100000 100000 (fun _ _ => (slVP bC (((a_1.getD x10.toNat default).take (32 : Int).toNat).drop (0 : Int).toNat))),
      .slot 13 100000 100000 (fun _ _ => (tupVP [(intVP .i64 r21.1), (eqVP r21.2.1)])),
      .res 100000 100000 (fun _ _ => (Bld_e p3 (some r21.2.2)))] [0, 1, 1] [⟨[3], [], [9], [], some 12⟩, ⟨[2, 9], [8], [10, 11], [0], some 13⟩] [0, 1, 2, 4, 5, 6, 7, 11] mixed hn hG h (by kernel_rfl) ?_ ?_
      · exact ⟨⟨rfl, fun β => (GOk.plain (op_slice_ppB (a := 0) (b := 32) Tryd.underlying24 Tryd.sizeOf5 (opt 0 rfl) rfl rfl (by decide)) rfl)⟩, ⟨rfl, fun β => (GOk.plain (op_call Tryd.call61 (strings_Builder_Write_ok hr21) ⟨(opt 0 rfl), (opt 1 rfl), trivial⟩) rfl)⟩, trivial⟩
      clear h
      intro β a w h
      change SatL c [.slot 0 (eqVP p_0), .slot 4 (lpVP p2 0), .slot 5 (eqVP p3), .slot 8 (aggVP [arrCk 64 32 (dC 32) (lens_dC 32) a_1]), .slot 9 (intVP .i64 x10), .res (Log_e p_0 L_0), .res (lb p2 24 [bytesCk 32 (List.replicate 32 0)]), .res (Bld_e p3 (some r21.2.2))] a w at h
      clear β
      show Code.wp Tryd.prog _ _ a w
      refine region_do (n := 19) [.slot 14 100000 100000 (fun _ _ => (intVP .i64 (IntKind.wrap .i64 (x10 + 1)))),
      .slot 9 100000 100000 (fun _ _ => (intVP .i64 (IntKind.wrap .i64 (x10 + 1))))] [0, 1] [⟨[4], [], [8], [], some 14⟩, ⟨[8], [4], [9], [0], some 9⟩] [0, 1, 2, 3, 9, 5, 6, 7] mixed hn hG h (by kernel_rfl) ?_ ?_
      · exact ⟨⟨rfl, fun β => (GOk.plain (op_bin bin_add (opt 0 rfl) (opc (ic (by decide)))) rfl)⟩, ⟨rfl, fun β => (GOk.drop _ (GOk.plain (op_move (opt 0 rfl)) rfl))⟩, trivial⟩
      clear h
      intro β a w h
      change SatL c [.slot 0 (eqVP p_0), .slot 4 (lpVP p2 0), .slot 5 (eqVP p3), .slot 8 (aggVP [arrCk 64 32 (dC 32) (lens_dC 32) a_1]), .slot 9 (intVP .i64 (IntKind.wrap .i64 (x10 + 1))), .res (Log_e p_0 L_0), .res (lb p2 24 [bytesCk 32 (List.replicate 32 0)]), .res (Bld_e p3 (some r21.2.2))] a w at h
      clear β
      obtain rfl := Option.some.inj hF
      exact ⟨rfl, h.sub [0, 1, 2, 3, 4, 5, 6, 7] (by rfl)⟩
    · replace hF := ff_of hb18 hF
      replace h := h.sub [0, 1, 2, 3, 4, 6, 7, 8] (by rfl)
      change SatL c [.slot 0 (eqVP p_0), .slot 4 (lpVP p2 0), .slot 5 (eqVP p3), .slot 8 (aggVP [arrCk 64 32 (dC 32) (lens_dC 32) a_1]), .slot 9 (intVP .i64 x10), .res (Log_e p_0 L_0), .res (lb p2 24 [bytesCk 32 (List.replicate 32 0)]), .res (Bld_e p3 (some x11))] a w at h
      refine wp_exit ?_
      obtain rfl := Option.some.inj hF
      exact ⟨exit_ne _, rfl, h.sub [0, 1, 2, 5, 6, 7] (by rfl)⟩
  · clear hl23
    intro e a w hq
    cases cr22 with
    | ret r24 =>
      obtain ⟨rfl, hq⟩ := hq
      obtain rfl := Option.some.inj hF
      exact ⟨.inl rfl, hq⟩
    | next s25 =>
      obtain ⟨y26, y27⟩ := s25
      obtain ⟨rfl, h⟩ := hq
      change SatL c [.slot 0 (eqVP p_0), .slot 4 (lpVP p2 0), .slot 5 (eqVP p3), .res (Log_e p_0 L_0), .res (lb p2 24 [bytesCk 32 (List.replicate 32 0)]), .res (Bld_e p3 (some y27))] a w at h
      refine inBlock_at ?_
      show Code.wp Tryd.prog _ _ a w
      refine wp_seq ?_
      obtain ⟨r28, hr28, hF⟩ := bind_some hF
      obtain ⟨r29, hr29, hF⟩ := bind_some hF
      refine region_do (n := 19) [.slot 15 100000 100000 (fun _ _ => (eqVP p_0)),
      .slot 16 100000 100000 (fun _ _ => (strVP r28)),
      .slot 17 100000 100000 (fun _ _ => (slVP strC [r28])),
      .slot 18 100000 100000 (fun _ _ => (aggVP [bytesCk 32 r29.1])),
      .res 100000 100000 (fun _ _ => (Log_e p_0 r29.2)),
      .res 100000 100000 (fun _ _ => (lb p2 24 [bytesCk 32 r29.1]))] [0, 1, 2, 3, 3, 4] [⟨[0], [], [6], [], some 15⟩, ⟨[2], [5], [7], [0], some 16⟩, ⟨[7], [], [8], [0, 1], some 17⟩, ⟨[6, 8], [3], [9, 10], [0, 1, 2], some 18⟩, ⟨[1, 9], [4], [11], [0, 1, 2, 3], none⟩] [1, 11, 10] mixed hn hG h (by kernel_rfl) ?_ ?_
      · exact ⟨⟨rfl, fun β => (GOk.plain (op_move (opt 0 rfl)) rfl)⟩, ⟨rfl, fun β => (GOk.plain (op_call Tryd.call56 (strings_Builder_String_ok hr28) ⟨(opt 0 rfl), trivial⟩) rfl)⟩, ⟨rfl, fun β => (GOk.plain (op_lit (xs := [.tmp 16]) (ys := [r28]) _ rfl Tryd.underlying22 Tryd.sizeOf9 Tryd.zeroValue9 rfl rfl (by decide) (by decide) ⟨⟨_, (opt 0 rfl), (cells_one (one_str _))⟩, trivial⟩ lens_strC) rfl)⟩, ⟨rfl, fun β => (GOk.plain (op_call Tryd.call14 (digest_Log_Of_ok hr29) ⟨(opt 0 rfl), (opc (ic (by decide))), (opt 1 rfl), trivial⟩) rfl)⟩, ⟨rfl, fun β => (GOk.plain (op_store_lb [] [bytesCk 32 (List.replicate 32 0)] [] [bytesCk 32 r29.1] Tryd.sizeOf24 (opt 0 rfl) (opt 1 rfl) (cells_agg _) rfl rfl rfl) rfl)⟩, trivial⟩
      clear h
      intro β a w h
      change SatL c [.slot 4 (lpVP p2 0), .res (lb p2 24 [bytesCk 32 r29.1]), .res (Log_e p_0 r29.2)] a w at h
      clear β
      show Code.wp Tryd.prog _ _ a w
      refine wp_ret ?_
      obtain rfl := Option.some.inj hF
      exact ⟨.inl rfl, ret1 h Tryd.results46 (r_cell 0 1 rfl rfl Tryd.isAgg24 Tryd.sizeOf24 rfl) [2] [(Log_e p_0 r29.2)] rfl rfl rfl⟩

def lamport_Word.b1 (a_1 : List UInt8) (a_2 : Int) (x7 : Int) (x8 : Option O_Log) (x9 : List (List UInt8)) : Option (Flow ((List UInt8) × (Option O_Log)) (Int × (Option O_Log) × (List (List UInt8)))) := (if (decide (x7 < (64 : Int))) = true then ((lamport_Secret x8 a_1 a_2 (IntKind.wrap .i64 (x7.tdiv 2)) (x7.tmod 2)).bind fun r18 => ((lamport_Public r18.2 r18.1).bind fun r19 => (if (0 : Int) ≤ x7 ∧ x7 < 64 then some (.cont (IntKind.wrap .i64 (x7 + 1), r19.2, x9.set x7.toNat r19.1)) else none))) else some (.brk (x7, x8, x9)))
def lamport_Word (L_0 : Option O_Log) (a_1 : List UInt8) (a_2 : Int) : Option ((List UInt8) × (Option O_Log)) := ((loopN (fun s : Int × (Option O_Log) × (List (List UInt8)) => lamport_Word.b1 a_1 a_2 s.1 s.2.1 s.2.2) ((64 - 0 : Int).toNat + 2) (0, L_0, (List.replicate 64 (List.replicate 32 0)))).bind fun cr => match cr with | .ret r => some r | .next (y25, y26, y27) => ((lamport_pair y26 y27).bind fun r28 => some (r28.1, r28.2)))
theorem lamport_Word_ok {p_0 : Value} {L_0 : Option O_Log} {a_1 : List UInt8} {a_2 : Int} {r : (List UInt8) × (Option O_Log)} (hF : lamport_Word L_0 a_1 a_2 = some r) : CallOk Tryd.prog KG 27 [(eqVP p_0), (aggVP [bytesCk 32 a_1]), (intVP .i64 a_2)] [(Log_e p_0 L_0)] (fun _ => [Log_e p_0 r.2]) (aggVP [bytesCk 32 r.1]) := by
  refine CallOk.intro 28 Tryd.func27 rfl Tryd.ntmps27 (Nat.le_of_ble_eq_true rfl) ?_
  intro c a w hG hn h
  unfold lamport_Word at hF
  change SatL c [.slot 0 (eqVP p_0), .slot 1 (aggVP [bytesCk 32 a_1]), .slot 2 (intVP .i64 a_2), .res (Log_e p_0 L_0)] a w at h
  refine wp_seq ?_
  refine region_do (n := 28) [.slot 4 0 100000 (fun v1_ _ => (lpVP v1_ 0)),
      .res 0 100000 (fun v1_ _ => (lb (v1_) 24 [bytesCk 32 a_1])),
      .slot 6 1 100000 (fun v1_ _ => (lpVP v1_ 0)),
      .res 1 100000 (fun v1_ _ => (lb (v1_) 24 [bytesCk 32 (List.replicate 32 0)]))] [0, 0, 1, 1] [⟨[1], [], [4, 5], [], some 4⟩, ⟨[], [], [6, 7], [0], some 6⟩] [0, 2, 4, 6, 3, 5, 7] mixed hn hG h (by kernel_rfl) ?_ ?_
  · exact ⟨⟨rfl, fun β => (GOk.plain (op_box (opt 0 rfl) (cells_agg _)) rfl)⟩, ⟨rfl, fun β => (GOk.plain (op_alloc Tryd.zeroValue24 z24) rfl)⟩, trivial⟩
  clear h
  intro β a w h
  change SatL c [.slot 0 (eqVP p_0), .slot 2 (intVP .i64 a_2), .slot 4 (lpVP (β 0) 0), .slot 6 (lpVP (β 1) 0), .res (Log_e p_0 L_0), .res (lb (β 0) 24 [bytesCk 32 a_1]), .res (lb (β 1) 24 [bytesCk 32 (List.replicate 32 0)])] a w at h
  generalize β 0 = p1 at h
  generalize β 1 = p2 at h
  clear β
  show Code.wp Tryd.prog _ _ a w
  refine wp_seq ?_
  refine region_do (n := 28) [.slot 7 0 100000 (fun v1_ _ => (lpVP v1_ 0)),
      .res 0 100000 (fun v1_ _ => (lb (v1_) 77 [arrCk 64 32 (dC 32) (lens_dC 32) (List.replicate 64 (List.replicate 32 0))]))] [0, 0] [⟨[], [], [7, 8], [], some 7⟩] [0, 1, 2, 3, 7, 4, 5, 6, 8] mixed hn hG h (by kernel_rfl) ?_ ?_
  · exact ⟨⟨rfl, fun β => (GOk.plain (op_alloc Tryd.zeroValue77 z77) rfl)⟩, trivial⟩
  clear h
  intro β a w h
  change SatL c [.slot 0 (eqVP p_0), .slot 2 (intVP .i64 a_2), .slot 4 (lpVP p1 0), .slot 6 (lpVP p2 0), .slot 7 (lpVP (β 0) 0), .res (Log_e p_0 L_0), .res (lb p1 24 [bytesCk 32 a_1]), .res (lb p2 24 [bytesCk 32 (List.replicate 32 0)]), .res (lb (β 0) 77 [arrCk 64 32 (dC 32) (lens_dC 32) (List.replicate 64 (List.replicate 32 0))])] a w at h
  generalize β 0 = p3 at h
  clear β
  show Code.wp Tryd.prog _ _ a w
  refine wp_seq ?_
  refine wp_seq ?_
  refine region_do (n := 28) [.slot 9 100000 100000 (fun _ _ => (intVP .i64 0))] [0] [⟨[], [], [9], [], some 9⟩] [0, 1, 2, 3, 4, 9, 5, 6, 7, 8] mixed hn hG h (by kernel_rfl) ?_ ?_
  · exact ⟨⟨rfl, fun β => (GOk.plain (op_move (opc (ic (by decide)))) rfl)⟩, trivial⟩
  clear h
  intro β a w h
  change SatL c [.slot 0 (eqVP p_0), .slot 2 (intVP .i64 a_2), .slot 4 (lpVP p1 0), .slot 6 (lpVP p2 0), .slot 7 (lpVP p3 0), .slot 9 (intVP .i64 0), .res (Log_e p_0 L_0), .res (lb p1 24 [bytesCk 32 a_1]), .res (lb p2 24 [bytesCk 32 (List.replicate 32 0)]), .res (lb p3 77 [arrCk 64 32 (dC 32) (lens_dC 32) (List.replicate 64 (List.replicate 32 0))])] a w at h
  clear β
  show Code.wp Tryd.prog _ _ a w
  refine wp_block ?_
  obtain ⟨cr21, hl22, hF⟩ := bind_some hF
  refine wp_mono (wp_loopN (R := (List UInt8) × (Option O_Log)) (S := Int × (Option O_Log) × (List (List UInt8))) (fun s a w => SatL c [.slot 0 (eqVP p_0), .slot 2 (intVP .i64 a_2), .slot 4 (lpVP p1 0), .slot 6 (lpVP p2 0), .slot 7 (lpVP p3 0), .slot 9 (intVP .i64 s.1), .res (Log_e p_0 s.2.1), .res (lb p1 24 [bytesCk 32 a_1]), .res (lb p2 24 [bytesCk 32 (List.replicate 32 0)]), .res (lb p3 77 [arrCk 64 32 (dC 32) (lens_dC 32) s.2.2])] a w) (fun res e a w => match res with | .next s => e = .exit 0 ∧ SatL c [.slot 0 (eqVP p_0), .slot 6 (lpVP p2 0), .slot 7 (lpVP p3 0), .res (Log_e p_0 s.2.1), .res (lb p2 24 [bytesCk 32 (List.replicate 32 0)]), .res (lb p3 77 [arrCk 64 32 (dC 32) (lens_dC 32) s.2.2])] a w | .ret r => e = .ret ∧ RetOk Tryd.prog Tryd.f27 c (aggVP [bytesCk 32 r.1]) (fun _ => [Log_e p_0 r.2]) a w) ?_ _ (0, L_0, (List.replicate 64 (List.replicate 32 0))) _ _ _ (h.sub [0, 1, 2, 3, 4, 5, 6, 7, 8, 9] (by rfl)) hl22) ?_
  · clear hl22 hF h
    intro s a w o h hF
    obtain ⟨x7, x8, x9⟩ := s
    change lamport_Word.b1 a_1 a_2 x7 x8 x9 = some o at hF
    unfold lamport_Word.b1 at hF
    change SatL c [.slot 0 (eqVP p_0), .slot 2 (intVP .i64 a_2), .slot 4 (lpVP p1 0), .slot 6 (lpVP p2 0), .slot 7 (lpVP p3 0), .slot 9 (intVP .i64 x7), .res (Log_e p_0 x8), .res (lb p1 24 [bytesCk 32 a_1]), .res (lb p2 24 [bytesCk 32 (List.replicate 32 0)]), .res (lb p3 77 [arrCk 64 32 (dC 32) (lens_dC 32) x9])] a w at h
    refine wp_seq ?_
    refine region_do (n := 28) [.slot 10 100000 100000 (fun _ _ => (boolVP (decide (x7 < (64 : Int)))))] [0] [⟨[5], [], [10], [], some 10⟩] [0, 1, 2, 3, 4, 5, 10, 6, 7, 8, 9] mixed hn hG h (by kernel_rfl) ?_ ?_
    · exact ⟨⟨rfl, fun β => (GOk.plain (op_bin bin_lss (opt 0 rfl) (opc (ic (by decide)))) rfl)⟩, trivial⟩
    clear h
    intro β a w h
    change SatL c [.slot 0 (eqVP p_0), .slot 2 (intVP .i64 a_2), .slot 4 (lpVP p1 0), .slot 6 (lpVP p2 0), .slot 7 (lpVP p3 0), .slot 9 (intVP .i64 x7), .slot 10 (boolVP (decide (x7 < (64 : Int)))), .res (Log_e p_0 x8), .res (lb p1 24 [bytesCk 32 a_1]), .res (lb p2 24 [bytesCk 32 (List.replicate 32 0)]), .res (lb p3 77 [arrCk 64 32 (dC 32) (lens_dC 32) x9])] a w at h
    clear β
    show Code.wp Tryd.prog _ _ a w
    refine wp_seq ?_
    refine cond_L h 6 rfl (fun hb17 => ?_) (fun hb17 => ?_)
    · replace hF := tt_of hb17 hF
      replace h := h.sub [0, 1, 2, 3, 4, 5, 7, 8, 9, 10] (by rfl)
      change SatL c [.slot 0 (eqVP p_0), .slot 2 (intVP .i64 a_2), .slot 4 (lpVP p1 0), .slot 6 (lpVP p2 0), .slot 7 (lpVP p3 0), .slot 9 (intVP .i64 x7), .res (Log_e p_0 x8), .res (lb p1 24 [bytesCk 32 a_1]), .res (lb p2 24 [bytesCk 32 (List.replicate 32 0)]), .res (lb p3 77 [arrCk 64 32 (dC 32) (lens_dC 32) x9])] a w at h
      refine wp_skip ?_
      show Code.wp Tryd.prog _ _ a w
      refine wp_seq ?_
      refine wp_block ?_
      refine wp_seq ?_
      refine region_do (n := 28) [.slot 11 100000 100000 (fun _ _ => (intVP .i64 x7)),
      .slot 8 100000 100000 (fun _ _ => (intVP .i64 x7))] [0, 1] [⟨[5], [], [10], [], some 11⟩, ⟨[10], [], [11], [0], some 8⟩] [0, 1, 2, 3, 4, 11, 5, 6, 7, 8, 9] mixed hn hG h (by kernel_rfl) ?_ ?_
      · exact ⟨⟨rfl, fun β => (GOk.plain (op_move (opt 0 rfl)) rfl)⟩, ⟨rfl, fun β => (GOk.plain (op_assign (opt 0 rfl)) rfl)⟩, trivial⟩
      clear h
      intro β a w h
      change SatL c [.slot 0 (eqVP p_0), .slot 2 (intVP .i64 a_2), .slot 4 (lpVP p1 0), .slot 6 (lpVP p2 0), .slot 7 (lpVP p3 0), .slot 8 (intVP .i64 x7), .slot 9 (intVP .i64 x7), .res (Log_e p_0 x8), .res (lb p1 24 [bytesCk 32 a_1]), .res (lb p2 24 [bytesCk 32 (List.replicate 32 0)]), .res (lb p3 77 [arrCk 64 32 (dC 32) (lens_dC 32) x9])] a w at h
      clear β
      show Code.wp Tryd.prog _ _ a w
      obtain ⟨r18, hr18, hF⟩ := bind_some hF
      obtain ⟨r19, hr19, hF⟩ := bind_some hF
      obtain ⟨hv20, hF⟩ := ite_some hF
      refine region_do (n := 28) [.slot 12 100000 100000 (fun _ _ => (intVP .i64 x7)),
      .slot 13 100000 100000 (fun _ _ => (eqVP p_0)),
      .slot 14 100000 100000 (fun _ _ => (eqVP p_0)),
      .slot 15 100000 100000 (fun _ _ => (aggVP [bytesCk 32 a_1])),
      .slot 16 100000 100000 (fun _ _ => (intVP .i64 a_2)),
      .slot 17 100000 100000 (fun _ _ => (intVP .i64 x7)),
      .slot 18 100000 100000 (fun _ _ => (intVP .i64 (IntKind.wrap .i64 (x7.tdiv 2)))),
      .slot 19 100000 100000 (fun _ _ => (intVP .i64 x7)),
      .slot 20 100000 100000 (fun _ _ => (intVP .i64 (x7.tmod 2))),
      .slot 21 100000 100000 (fun _ _ => (aggVP [bytesCk 32 r18.1])),
      .res 100000 100000 (fun _ _ => (Log_e p_0 r18.2)),
      .slot 22 100000 100000 (fun _ _ => (aggVP [bytesCk 32 r19.1])),
      .res 100000 100000 (fun _ _ => (Log_e p_0 r19.2)),
      .slot 23 100000 100000 (fun _ _ => (lpVP p3 (0 + x7.toNat * 32))),
      .res 100000 100000 (fun _ _ => (lb p3 77 [arrCk 64 32 (dC 32) (lens_dC 32) (x9.set x7.toNat r19.1)]))] [0, 1, 2, 3, 4, 5, 6, 7, 8, 9, 9, 10, 10, 11, 12] [⟨[5], [], [11], [], some 12⟩, ⟨[0], [], [12], [0], some 13⟩, ⟨[0], [], [13], [0, 1], some 14⟩, ⟨[2, 8], [], [14], [0, 1, 2], some 15⟩, ⟨[1], [], [15], [0, 1, 2, 3], some 16⟩, ⟨[5], [], [16], [0, 1, 2, 3, 4], some 17⟩, ⟨[16], [], [17], [0, 1, 2, 3, 4, 5], some 18⟩, ⟨[5], [], [18], [0, 1, 2, 3, 4, 5, 6], some 19⟩, ⟨[18], [], [19], [0, 1, 2, 3, 4, 5, 6, 7], some 20⟩, ⟨[13, 14, 15, 17, 19], [7], [20, 21], [0, 1, 2, 3, 4, 5, 6, 7, 8], some 21⟩, ⟨[12, 20], [21], [22, 23], [0, 1, 2, 3, 4, 5, 6, 7, 8, 9], some 22⟩, ⟨[4, 11], [], [24], [0, 1, 2, 3, 4, 5, 6, 7, 8, 9, 10], some 23⟩, ⟨[24, 22], [10], [25], [0, 1, 2, 3, 4, 5, 6, 7, 8, 9, 10, 11], none⟩] [0, 1, 2, 3, 4, 6, 8, 9, 25, 23] mixed hn hG h (by kernel_rfl) ?_ ?_
      · exact ⟨⟨rfl, fun β => (GOk.plain (op_move (opt 0 rfl)) rfl)⟩, ⟨rfl, fun β => (GOk.plain (op_move (opt 0 rfl)) rfl)⟩, ⟨rfl, fun β => (GOk.plain (op_move (opt 0 rfl)) rfl)⟩, ⟨rfl, fun β => (GOk.plain (op_load_lb [] [bytesCk 32 a_1] [] 1 Tryd.isAgg24 Tryd.sizeOf24 (opt 0 rfl) rfl rfl rfl) rfl)⟩, ⟨rfl, fun β => (GOk.plain (op_move (opt 0 rfl)) rfl)⟩, ⟨rfl, fun β => (GOk.plain (op_move (opt 0 rfl)) rfl)⟩, ⟨rfl, fun β => (GOk.plain (op_bin (bin_quo (by decide)) (opt 0 rfl) (opc (ic (by decide)))) rfl)⟩, ⟨rfl, fun β => (GOk.plain (op_move (opt 0 rfl)) rfl)⟩, ⟨rfl, fun β => (GOk.plain (op_bin (bin_rem (by decide)) (opt 0 rfl) (opc (ic (by decide)))) rfl)⟩, ⟨rfl, fun β => (GOk.plain (op_call Tryd.call31 (lamport_Secret_ok hr18) ⟨(opt 0 rfl), (opt 1 rfl), (opt 2 rfl), (opt 3 rfl), (opt 4 rfl), trivial⟩) rfl)⟩, ⟨rfl, fun β => (GOk.plain (op_call Tryd.call34 (lamport_Public_ok hr19) ⟨(opt 0 rfl), (opt 1 rfl), trivial⟩) rfl)⟩, ⟨rfl, fun β => (GOk.plain (op_indexAddr_lb Tryd.underlying77 Tryd.sizeOf24 (opt 0 rfl) (opt 1 rfl) hv20) rfl)⟩, ⟨rfl, fun β => (GOk.plain (op_store_lbA (i := x7) [] [] Tryd.sizeOf24 (opt 0 rfl) (opt 1 rfl) rfl hv20) rfl)⟩, trivial⟩
      clear h
      intro β a w h
      change SatL c [.slot 0 (eqVP p_0), .slot 2 (intVP .i64 a_2), .slot 4 (lpVP p1 0), .slot 6 (lpVP p2 0), .slot 7 (lpVP p3 0), .slot 9 (intVP .i64 x7), .res (lb p1 24 [bytesCk 32 a_1]), .res (lb p2 24 [bytesCk 32 (List.replicate 32 0)]), .res (lb p3 77 [arrCk 64 32 (dC 32) (lens_dC 32) (x9.set x7.toNat r19.1)]), .res (Log_e p_0 r19.2)] a w at h
      clear β
      show Code.wp Tryd.prog _ _ a w
      refine region_do (n := 28) [.slot 24 100000 100000 (fun _ _ => (intVP .i64 (IntKind.wrap .i64 (x7 + 1)))),
      .slot 9 100000 100000 (fun _ _ => (intVP .i64 (IntKind.wrap .i64 (x7 + 1))))] [0, 1] [⟨[5], [], [10], [], some 24⟩, ⟨[10], [5], [11], [0], some 9⟩] [0, 1, 2, 3, 4, 11, 6, 7, 8, 9] mixed hn hG h (by kernel_rfl) ?_ ?_
      · exact ⟨⟨rfl, fun β => (GOk.plain (op_bin bin_add (opt 0 rfl) (opc (ic (by decide)))) rfl)⟩, ⟨rfl, fun β => (GOk.drop _ (GOk.plain (op_move (opt 0 rfl)) rfl))⟩, trivial⟩
      clear h
      intro β a w h
      change SatL c [.slot 0 (eqVP p_0), .slot 2 (intVP .i64 a_2), .slot 4 (lpVP p1 0), .slot 6 (lpVP p2 0), .slot 7 (lpVP p3 0), .slot 9 (intVP .i64 (IntKind.wrap .i64 (x7 + 1))), .res (lb p1 24 [bytesCk 32 a_1]), .res (lb p2 24 [bytesCk 32 (List.replicate 32 0)]), .res (lb p3 77 [arrCk 64 32 (dC 32) (lens_dC 32) (x9.set x7.toNat r19.1)]), .res (Log_e p_0 r19.2)] a w at h
      clear β
      obtain rfl := Option.some.inj hF
      exact ⟨rfl, h.sub [0, 1, 2, 3, 4, 5, 9, 6, 7, 8] (by rfl)⟩
    · replace hF := ff_of hb17 hF
      replace h := h.sub [0, 1, 2, 3, 4, 5, 7, 8, 9, 10] (by rfl)
      change SatL c [.slot 0 (eqVP p_0), .slot 2 (intVP .i64 a_2), .slot 4 (lpVP p1 0), .slot 6 (lpVP p2 0), .slot 7 (lpVP p3 0), .slot 9 (intVP .i64 x7), .res (Log_e p_0 x8), .res (lb p1 24 [bytesCk 32 a_1]), .res (lb p2 24 [bytesCk 32 (List.replicate 32 0)]), .res (lb p3 77 [arrCk 64 32 (dC 32) (lens_dC 32) x9])] a w at h
      refine wp_exit ?_
      obtain rfl := Option.some.inj hF
      exact ⟨exit_ne _, rfl, h.sub [0, 3, 4, 6, 8, 9] (by rfl)⟩
  · clear hl22
    intro e a w hq
    cases cr21 with
    | ret r23 =>
      obtain ⟨rfl, hq⟩ := hq
      obtain rfl := Option.some.inj hF
      exact ⟨.inl rfl, hq⟩
    | next s24 =>
      obtain ⟨y25, y26, y27⟩ := s24
      obtain ⟨rfl, h⟩ := hq
      change SatL c [.slot 0 (eqVP p_0), .slot 6 (lpVP p2 0), .slot 7 (lpVP p3 0), .res (Log_e p_0 y26), .res (lb p2 24 [bytesCk 32 (List.replicate 32 0)]), .res (lb p3 77 [arrCk 64 32 (dC 32) (lens_dC 32) y27])] a w at h
      refine inBlock_at ?_
      show Code.wp Tryd.prog _ _ a w
      refine wp_seq ?_
      obtain ⟨r28, hr28, hF⟩ := bind_some hF
      refine region_do (n := 28) [.slot 25 100000 100000 (fun _ _ => (eqVP p_0)),
      .slot 26 100000 100000 (fun _ _ => (aggVP [arrCk 64 32 (dC 32) (lens_dC 32) y27])),
      .slot 27 100000 100000 (fun _ _ => (aggVP [bytesCk 32 r28.1])),
      .res 100000 100000 (fun _ _ => (Log_e p_0 r28.2)),
      .res 100000 100000 (fun _ _ => (lb p2 24 [bytesCk 32 r28.1]))] [0, 1, 2, 2, 3] [⟨[0], [], [6], [], some 25⟩, ⟨[2, 5], [], [7], [0], some 26⟩, ⟨[6, 7], [3], [8, 9], [0, 1], some 27⟩, ⟨[1, 8], [4], [10], [0, 1, 2], none⟩] [1, 10, 9] mixed hn hG h (by kernel_rfl) ?_ ?_
      · exact ⟨⟨rfl, fun β => (GOk.plain (op_move (opt 0 rfl)) rfl)⟩, ⟨rfl, fun β => (GOk.plain (op_load_lb [] [arrCk 64 32 (dC 32) (lens_dC 32) y27] [] 1 Tryd.isAgg77 Tryd.sizeOf77 (opt 0 rfl) rfl rfl rfl) rfl)⟩, ⟨rfl, fun β => (GOk.plain (op_call Tryd.call46 (lamport_pair_ok hr28) ⟨(opt 0 rfl), (opt 1 rfl), trivial⟩) rfl)⟩, ⟨rfl, fun β => (GOk.plain (op_store_lb [] [bytesCk 32 (List.replicate 32 0)] [] [bytesCk 32 r28.1] Tryd.sizeOf24 (opt 0 rfl) (opt 1 rfl) (cells_agg _) rfl rfl rfl) rfl)⟩, trivial⟩
      clear h
      intro β a w h
      change SatL c [.slot 6 (lpVP p2 0), .res (lb p2 24 [bytesCk 32 r28.1]), .res (Log_e p_0 r28.2)] a w at h
      clear β
      show Code.wp Tryd.prog _ _ a w
      refine wp_ret ?_
      obtain rfl := Option.some.inj hF
      exact ⟨.inl rfl, ret1 h Tryd.results27 (r_cell 0 1 rfl rfl Tryd.isAgg24 Tryd.sizeOf24 rfl) [2] [(Log_e p_0 r28.2)] rfl rfl rfl⟩

def lamport_Sign.b1 (a_1 : List UInt8) (a_2 : Int) (a_3 : List UInt8) (x25 : Int) (x26 : Option O_Log) (x27 : List (List UInt8)) (x29 : List (List UInt8)) : Option (Flow ((List (List UInt8)) × (List (List UInt8)) × (Option O_Log)) (Int × (Option O_Log) × (List (List UInt8)) × (List (List UInt8)))) := (if (decide (x25 < (32 : Int))) = true then ((lamport_Bit a_3 x25).bind fun r47 => ((lamport_Secret x26 a_1 a_2 x25 r47).bind fun r48 => (if x27.length + [r48.1].length ≤ mxl ∧ (x27.length + [r48.1].length) * 32 ≤ 140737488355328 then ((lamport_Secret r48.2 a_1 a_2 x25 (IntKind.wrap .i64 (1 - r47))).bind fun r51 => ((lamport_Public r51.2 r51.1).bind fun r52 => (if x29.length + [r52.1].length ≤ mxl ∧ (x29.length + [r52.1].length) * 32 ≤ 140737488355328 then some (.cont (IntKind.wrap .i64 (x25 + 1), r52.2, x27 ++ [r48.1], x29 ++ [r52.1])) else none))) else none))) else some (.brk (x25, x26, x27, x29)))
def lamport_Sign (L_0 : Option O_Log) (a_1 : List UInt8) (a_2 : Int) (a_3 : List UInt8) : Option ((List (List UInt8)) × (List (List UInt8)) × (Option O_Log)) := ((loopN (fun s : Int × (Option O_Log) × (List (List UInt8)) × (List (List UInt8)) => lamport_Sign.b1 a_1 a_2 a_3 s.1 s.2.1 s.2.2.1 s.2.2.2) ((32 - 0 : Int).toNat + 2) (0, L_0, [], [])).bind fun cr => match cr with | .ret r => some r | .next (y59, y60, y61, y62) => some (y61, y62, y60))
theorem lamport_Sign_ok {p_0 : Value} {L_0 : Option O_Log} {a_1 : List UInt8} {a_2 : Int} {a_3 : List UInt8} {r : (List (List UInt8)) × (List (List UInt8)) × (Option O_Log)} (hF : lamport_Sign L_0 a_1 a_2 a_3 = some r) : CallOk Tryd.prog KG 25 [(eqVP p_0), (aggVP [bytesCk 32 a_1]), (intVP .i64 a_2), (aggVP [bytesCk 32 a_3])] [(Log_e p_0 L_0)] (fun v => [own (tupAt 0 v) 24 32 (dC 32) r.1, own (tupAt 1 v) 24 32 (dC 32) r.2.1, Log_e p_0 r.2.2]) anyVP := by
  refine CallOk.intro 44 Tryd.func25 rfl Tryd.ntmps25 (Nat.le_of_ble_eq_true rfl) ?_
  intro c a w hG hn h
  unfold lamport_Sign at hF
  change SatL c [.slot 0 (eqVP p_0), .slot 1 (aggVP [bytesCk 32 a_1]), .slot 2 (intVP .i64 a_2), .slot 3 (aggVP [bytesCk 32 a_3]), .res (Log_e p_0 L_0)] a w at h
  refine wp_seq ?_
  refine region_do (n := 44) [.slot 5 0 100000 (fun v1_ _ => (lpVP v1_ 0)),
      .res 0 100000 (fun v1_ _ => (lb (v1_) 24 [bytesCk 32 a_1])),
      .slot 7 1 100000 (fun v1_ _ => (lpVP v1_ 0)),
      .res 1 100000 (fun v1_ _ => (lb (v1_) 24 [bytesCk 32 a_3])),
      .slot 8 100000 100000 (fun _ _ => (eqVP (.slice none 0 0))),
      .slot 9 100000 100000 (fun _ _ => (eqVP (.slice none 0 0)))] [0, 0, 1, 1, 2, 3] [⟨[1], [], [5, 6], [], some 5⟩, ⟨[3], [], [7, 8], [0], some 7⟩, ⟨[], [], [9], [0, 1], some 8⟩, ⟨[], [], [10], [0, 1, 2], some 9⟩] [0, 2, 5, 7, 4, 6, 8] mixed hn hG h (by kernel_rfl) ?_ ?_
  · exact ⟨⟨rfl, fun β => (GOk.plain (op_box (opt 0 rfl) (cells_agg _)) rfl)⟩, ⟨rfl, fun β => (GOk.plain (op_box (opt 0 rfl) (cells_agg _)) rfl)⟩, ⟨rfl, fun β => (GOk.plain (op_assign (opc (ec _))) rfl)⟩, ⟨rfl, fun β => (GOk.plain (op_assign (opc (ec _))) rfl)⟩, trivial⟩
  clear h
  intro β a w h
  change SatL c [.slot 0 (eqVP p_0), .slot 2 (intVP .i64 a_2), .slot 5 (lpVP (β 0) 0), .slot 7 (lpVP (β 1) 0), .res (Log_e p_0 L_0), .res (lb (β 0) 24 [bytesCk 32 a_1]), .res (lb (β 1) 24 [bytesCk 32 a_3])] a w at h
  generalize β 0 = p1 at h
  generalize β 1 = p2 at h
  clear β
  show Code.wp Tryd.prog _ _ a w
  refine wp_seq ?_
  refine region_do (n := 44) [.slot 10 100000 100000 (fun _ _ => (eqVP (.slice none 0 0))),
      .slot 11 100000 100000 (fun _ _ => (eqVP (.slice none 0 0)))] [0, 1] [⟨[], [], [7], [], some 10⟩, ⟨[], [], [8], [0], some 11⟩] [0, 1, 2, 3, 7, 8, 4, 5, 6] mixed hn hG h (by kernel_rfl) ?_ ?_
  · exact ⟨⟨rfl, fun β => (GOk.plain (op_assign (opc (ec _))) rfl)⟩, ⟨rfl, fun β => (GOk.plain (op_assign (opc (ec _))) rfl)⟩, trivial⟩
  clear h
  intro β a w h
  change SatL c [.slot 0 (eqVP p_0), .slot 2 (intVP .i64 a_2), .slot 5 (lpVP p1 0), .slot 7 (lpVP p2 0), .slot 10 (eqVP (.slice none 0 0)), .slot 11 (eqVP (.slice none 0 0)), .res (Log_e p_0 L_0), .res (lb p1 24 [bytesCk 32 a_1]), .res (lb p2 24 [bytesCk 32 a_3])] a w at h
  clear β
  show Code.wp Tryd.prog _ _ a w
  refine wp_seq ?_
  refine wp_seq ?_
  refine region_do (n := 44) [.slot 14 100000 100000 (fun _ _ => (intVP .i64 0))] [0] [⟨[], [], [9], [], some 14⟩] [0, 1, 2, 3, 4, 5, 9, 6, 7, 8] mixed hn hG h (by kernel_rfl) ?_ ?_
  · exact ⟨⟨rfl, fun β => (GOk.plain (op_move (opc (ic (by decide)))) rfl)⟩, trivial⟩
  clear h
  intro β a w h
  change SatL c [.slot 0 (eqVP p_0), .slot 2 (intVP .i64 a_2), .slot 5 (lpVP p1 0), .slot 7 (lpVP p2 0), .slot 10 (eqVP (.slice none 0 0)), .slot 11 (eqVP (.slice none 0 0)), .slot 14 (intVP .i64 0), .res (Log_e p_0 L_0), .res (lb p1 24 [bytesCk 32 a_1]), .res (lb p2 24 [bytesCk 32 a_3])] a w at h
  clear β
  show Code.wp Tryd.prog _ _ a w
  refine wp_block ?_
  obtain ⟨q14, h⟩ : ∃ q14 : Value, SatL c [.slot 0 (eqVP p_0), .slot 2 (intVP .i64 a_2), .slot 5 (lpVP p1 0), .slot 7 (lpVP p2 0), .slot 10 (eqVP q14), .slot 11 (eqVP (.slice none 0 0)), .slot 14 (intVP .i64 0), .res (Log_e p_0 L_0), .res (lb p1 24 [bytesCk 32 a_1]), .res (lb p2 24 [bytesCk 32 a_3]), .res (own q14 24 32 (dC 32) [])] a w := ⟨.slice none 0 0, (h.nilown 24 32 (dC 32)).sub [0, 1, 2, 3, 4, 5, 6, 7, 8, 9, 10] (by rfl)⟩
  obtain ⟨q15, h⟩ : ∃ q15 : Value, SatL c [.slot 0 (eqVP p_0), .slot 2 (intVP .i64 a_2), .slot 5 (lpVP p1 0), .slot 7 (lpVP p2 0), .slot 10 (eqVP q14), .slot 11 (eqVP q15), .slot 14 (intVP .i64 0), .res (Log_e p_0 L_0), .res (lb p1 24 [bytesCk 32 a_1]), .res (lb p2 24 [bytesCk 32 a_3]), .res (own q14 24 32 (dC 32) []), .res (own q15 24 32 (dC 32) [])] a w := ⟨.slice none 0 0, (h.nilown 24 32 (dC 32)).sub [0, 1, 2, 3, 4, 5, 6, 7, 8, 9, 10, 11] (by rfl)⟩
  obtain ⟨cr55, hl56, hF⟩ := bind_some hF
  refine wp_mono (wp_loopN (R := (List (List UInt8)) × (List (List UInt8)) × (Option O_Log)) (S := Int × (Option O_Log) × (List (List UInt8)) × (List (List UInt8))) (fun s a w => ∃ q28 : Value, ∃ q30 : Value, SatL c [.slot 0 (eqVP p_0), .slot 2 (intVP .i64 a_2), .slot 5 (lpVP p1 0), .slot 7 (lpVP p2 0), .slot 10 (eqVP q28), .slot 11 (eqVP q30), .slot 14 (intVP .i64 s.1), .res (Log_e p_0 s.2.1), .res (lb p1 24 [bytesCk 32 a_1]), .res (lb p2 24 [bytesCk 32 a_3]), .res (own q28 24 32 (dC 32) s.2.2.1), .res (own q30 24 32 (dC 32) s.2.2.2)] a w) (fun res e a w => match res with | .next s => e = .exit 0 ∧ ∃ q28 : Value, ∃ q30 : Value, SatL c [.slot 10 (eqVP q28), .slot 11 (eqVP q30), .res (Log_e p_0 s.2.1), .res (own q28 24 32 (dC 32) s.2.2.1), .res (own q30 24 32 (dC 32) s.2.2.2)] a w | .ret r => e = .ret ∧ RetOk Tryd.prog Tryd.f25 c anyVP (fun v => [own (tupAt 0 v) 24 32 (dC 32) r.1, own (tupAt 1 v) 24 32 (dC 32) r.2.1, Log_e p_0 r.2.2]) a w) ?_ _ (0, L_0, [], []) _ _ _ ⟨q14, q15, (h.sub [0, 1, 2, 3, 4, 5, 6, 7, 8, 9, 10, 11] (by rfl))⟩ hl56) ?_
  · clear hl56 hF h
    intro s a w o h hF
    obtain ⟨x25, x26, x27, x29⟩ := s
    obtain ⟨q28, q30, h⟩ := h
    change lamport_Sign.b1 a_1 a_2 a_3 x25 x26 x27 x29 = some o at hF
    unfold lamport_Sign.b1 at hF
    change SatL c [.slot 0 (eqVP p_0), .slot 2 (intVP .i64 a_2), .slot 5 (lpVP p1 0), .slot 7 (lpVP p2 0), .slot 10 (eqVP q28), .slot 11 (eqVP q30), .slot 14 (intVP .i64 x25), .res (Log_e p_0 x26), .res (lb p1 24 [bytesCk 32 a_1]), .res (lb p2 24 [bytesCk 32 a_3]), .res (own q28 24 32 (dC 32) x27), .res (own q30 24 32 (dC 32) x29)] a w at h
    refine wp_seq ?_
    refine region_do (n := 44) [.slot 15 100000 100000 (fun _ _ => (boolVP (decide (x25 < (32 : Int)))))] [0] [⟨[6], [], [12], [], some 15⟩] [0, 1, 2, 3, 4, 5, 6, 12, 7, 8, 9, 10, 11] mixed hn hG h (by kernel_rfl) ?_ ?_
    · exact ⟨⟨rfl, fun β => (GOk.plain (op_bin bin_lss (opt 0 rfl) (opc (ic (by decide)))) rfl)⟩, trivial⟩
    clear h
    intro β a w h
    change SatL c [.slot 0 (eqVP p_0), .slot 2 (intVP .i64 a_2), .slot 5 (lpVP p1 0), .slot 7 (lpVP p2 0), .slot 10 (eqVP q28), .slot 11 (eqVP q30), .slot 14 (intVP .i64 x25), .slot 15 (boolVP (decide (x25 < (32 : Int)))), .res (Log_e p_0 x26), .res (lb p1 24 [bytesCk 32 a_1]), .res (lb p2 24 [bytesCk 32 a_3]), .res (own q28 24 32 (dC 32) x27), .res (own q30 24 32 (dC 32) x29)] a w at h
    clear β
    show Code.wp Tryd.prog _ _ a w
    refine wp_seq ?_
    refine cond_L h 7 rfl (fun hb46 => ?_) (fun hb46 => ?_)
    · replace hF := tt_of hb46 hF
      replace h := h.sub [0, 1, 2, 3, 4, 5, 6, 8, 9, 10, 11, 12] (by rfl)
      change SatL c [.slot 0 (eqVP p_0), .slot 2 (intVP .i64 a_2), .slot 5 (lpVP p1 0), .slot 7 (lpVP p2 0), .slot 10 (eqVP q28), .slot 11 (eqVP q30), .slot 14 (intVP .i64 x25), .res (Log_e p_0 x26), .res (lb p1 24 [bytesCk 32 a_1]), .res (lb p2 24 [bytesCk 32 a_3]), .res (own q28 24 32 (dC 32) x27), .res (own q30 24 32 (dC 32) x29)] a w at h
      refine wp_skip ?_
      show Code.wp Tryd.prog _ _ a w
      refine wp_seq ?_
      refine wp_block ?_
      refine wp_seq ?_
      refine region_do (n := 44) [.slot 16 100000 100000 (fun _ _ => (intVP .i64 x25)),
      .slot 12 100000 100000 (fun _ _ => (intVP .i64 x25))] [0, 1] [⟨[6], [], [12], [], some 16⟩, ⟨[12], [], [13], [0], some 12⟩] [0, 1, 2, 3, 4, 5, 13, 6, 7, 8, 9, 10, 11] mixed hn hG h (by kernel_rfl) ?_ ?_
      · exact ⟨⟨rfl, fun β => (GOk.plain (op_move (opt 0 rfl)) rfl)⟩, ⟨rfl, fun β => (GOk.plain (op_assign (opt 0 rfl)) rfl)⟩, trivial⟩
      clear h
      intro β a w h
      change SatL c [.slot 0 (eqVP p_0), .slot 2 (intVP .i64 a_2), .slot 5 (lpVP p1 0), .slot 7 (lpVP p2 0), .slot 10 (eqVP q28), .slot 11 (eqVP q30), .slot 12 (intVP .i64 x25), .slot 14 (intVP .i64 x25), .res (Log_e p_0 x26), .res (lb p1 24 [bytesCk 32 a_1]), .res (lb p2 24 [bytesCk 32 a_3]), .res (own q28 24 32 (dC 32) x27), .res (own q30 24 32 (dC 32) x29)] a w at h
      clear β
      show Code.wp Tryd.prog _ _ a w
      refine wp_seq ?_
      obtain ⟨r47, hr47, hF⟩ := bind_some hF
      refine region_do (n := 44) [.slot 17 100000 100000 (fun _ _ => (aggVP [bytesCk 32 a_3])),
      .slot 18 100000 100000 (fun _ _ => (intVP .i64 x25)),
      .slot 19 100000 100000 (fun _ _ => (intVP .i64 r47)),
      .slot 13 100000 100000 (fun _ _ => (intVP .i64 r47))] [0, 1, 2, 3] [⟨[3, 10], [], [13], [], some 17⟩, ⟨[6], [], [14], [0], some 18⟩, ⟨[13, 14], [], [15], [0, 1], some 19⟩, ⟨[15], [], [16], [0, 1, 2], some 13⟩] [0, 1, 2, 3, 4, 5, 6, 16, 7, 8, 9, 10, 11, 12] mixed hn hG h (by kernel_rfl) ?_ ?_
      · exact ⟨⟨rfl, fun β => (GOk.plain (op_load_lb [] [bytesCk 32 a_3] [] 1 Tryd.isAgg24 Tryd.sizeOf24 (opt 0 rfl) rfl rfl rfl) rfl)⟩, ⟨rfl, fun β => (GOk.plain (op_move (opt 0 rfl)) rfl)⟩, ⟨rfl, fun β => (GOk.plain (op_call Tryd.call29 (lamport_Bit_ok hr47) ⟨(opt 0 rfl), (opt 1 rfl), trivial⟩) rfl)⟩, ⟨rfl, fun β => (GOk.plain (op_assign (opt 0 rfl)) rfl)⟩, trivial⟩
      clear h
      intro β a w h
      change SatL c [.slot 0 (eqVP p_0), .slot 2 (intVP .i64 a_2), .slot 5 (lpVP p1 0), .slot 7 (lpVP p2 0), .slot 10 (eqVP q28), .slot 11 (eqVP q30), .slot 12 (intVP .i64 x25), .slot 13 (intVP .i64 r47), .slot 14 (intVP .i64 x25), .res (Log_e p_0 x26), .res (lb p1 24 [bytesCk 32 a_1]), .res (lb p2 24 [bytesCk 32 a_3]), .res (own q28 24 32 (dC 32) x27), .res (own q30 24 32 (dC 32) x29)] a w at h
      clear β
      show Code.wp Tryd.prog _ _ a w
      refine wp_seq ?_
      obtain ⟨r48, hr48, hF⟩ := bind_some hF
      obtain ⟨hv49, hF⟩ := ite_some hF
      refine region_do (n := 44) [.slot 20 100000 100000 (fun _ _ => (eqVP q28)),
      .slot 21 100000 100000 (fun _ _ => (eqVP p_0)),
      .slot 22 100000 100000 (fun _ _ => (aggVP [bytesCk 32 a_1])),
      .slot 23 100000 100000 (fun _ _ => (intVP .i64 a_2)),
      .slot 24 100000 100000 (fun _ _ => (intVP .i64 x25)),
      .slot 25 100000 100000 (fun _ _ => (intVP .i64 r47)),
      .slot 26 100000 100000 (fun _ _ => (aggVP [bytesCk 32 r48.1])),
      .res 100000 100000 (fun _ _ => (Log_e p_0 r48.2)),
      .slot 27 100000 100000 (fun _ _ => (slVP (dC 32) [r48.1])),
      .slot 28 8 100000 (fun v1_ _ => (eqVP v1_)),
      .res 8 100000 (fun v1_ _ => (own (v1_) 24 32 (dC 32) (x27 ++ [r48.1]))),
      .slot 10 8 100000 (fun v1_ _ => (eqVP v1_))] [0, 1, 2, 3, 4, 5, 6, 6, 7, 8, 8, 9] [⟨[4], [], [14], [], some 20⟩, ⟨[0], [], [15], [0], some 21⟩, ⟨[2, 10], [], [16], [0, 1], some 22⟩, ⟨[1], [], [17], [0, 1, 2], some 23⟩, ⟨[6], [], [18], [0, 1, 2, 3], some 24⟩, ⟨[7], [], [19], [0, 1, 2, 3, 4], some 25⟩, ⟨[15, 16, 17, 18, 19], [9], [20, 21], [0, 1, 2, 3, 4, 5], some 26⟩, ⟨[20], [], [22], [0, 1, 2, 3, 4, 5, 6], some 27⟩, ⟨[14, 22], [12], [23, 24], [0, 1, 2, 3, 4, 5, 6, 7], some 28⟩, ⟨[23], [4], [25], [0, 1, 2, 3, 4, 5, 6, 7, 8], some 10⟩] [0, 1, 2, 3, 25, 5, 6, 7, 8, 10, 11, 13, 21, 24] mixed hn hG h (by kernel_rfl) ?_ ?_
      · exact ⟨⟨rfl, fun β => (GOk.plain (op_move (opt 0 rfl)) rfl)⟩, ⟨rfl, fun β => (GOk.plain (op_move (opt 0 rfl)) rfl)⟩, ⟨rfl, fun β => (GOk.plain (op_load_lb [] [bytesCk 32 a_1] [] 1 Tryd.isAgg24 Tryd.sizeOf24 (opt 0 rfl) rfl rfl rfl) rfl)⟩, ⟨rfl, fun β => (GOk.plain (op_move (opt 0 rfl)) rfl)⟩, ⟨rfl, fun β => (GOk.plain (op_move (opt 0 rfl)) rfl)⟩, ⟨rfl, fun β => (GOk.plain (op_move (opt 0 rfl)) rfl)⟩, ⟨rfl, fun β => (GOk.plain (op_call Tryd.call31 (lamport_Secret_ok hr48) ⟨(opt 0 rfl), (opt 1 rfl), (opt 2 rfl), (opt 3 rfl), (opt 4 rfl), trivial⟩) rfl)⟩, ⟨rfl, fun β => (GOk.plain (op_lit (xs := [.tmp 26]) (ys := [r48.1]) _ rfl Tryd.underlying46 Tryd.sizeOf24 Tryd.zeroValue24 rfl rfl (by decide) (by decide) ⟨⟨_, (opt 0 rfl), (cells_agg _)⟩, trivial⟩ (lens_dC 32)) rfl)⟩, ⟨rfl, fun β => (GOk.plain (op_ownAppend (i := Tryd.t24) Tryd.underlying46 Tryd.type24 rfl (lens_dC 32) (by decide) rfl (opt 0 rfl) (opt 1 rfl) hv49) rfl)⟩, ⟨rfl, fun β => (GOk.drop _ (GOk.plain (op_assign (V := (eqVP (β 8))) (opt 0 rfl)) rfl))⟩, trivial⟩
      clear h
      intro β a w h
      change SatL c [.slot 0 (eqVP p_0), .slot 2 (intVP .i64 a_2), .slot 5 (lpVP p1 0), .slot 7 (lpVP p2 0), .slot 10 (eqVP (β 8)), .slot 11 (eqVP q30), .slot 12 (intVP .i64 x25), .slot 13 (intVP .i64 r47), .slot 14 (intVP .i64 x25), .res (lb p1 24 [bytesCk 32 a_1]), .res (lb p2 24 [bytesCk 32 a_3]), .res (own q30 24 32 (dC 32) x29), .res (Log_e p_0 r48.2), .res (own (β 8) 24 32 (dC 32) (x27 ++ [r48.1]))] a w at h
      generalize β 8 = p50 at h
      clear β
      show Code.wp Tryd.prog _ _ a w
      obtain ⟨r51, hr51, hF⟩ := bind_some hF
      obtain ⟨r52, hr52, hF⟩ := bind_some hF
      obtain ⟨hv53, hF⟩ := ite_some hF
      refine region_do (n := 44) [.slot 29 100000 100000 (fun _ _ => (eqVP q30)),
      .slot 30 100000 100000 (fun _ _ => (eqVP p_0)),
      .slot 31 100000 100000 (fun _ _ => (eqVP p_0)),
      .slot 32 100000 100000 (fun _ _ => (aggVP [bytesCk 32 a_1])),
      .slot 33 100000 100000 (fun _ _ => (intVP .i64 a_2)),
      .slot 34 100000 100000 (fun _ _ => (intVP .i64 x25)),
      .slot 35 100000 100000 (fun _ _ => (intVP .i64 r47)),
      .slot 36 100000 100000 (fun _ _ => (intVP .i64 (IntKind.wrap .i64 (1 - r47)))),
      .slot 37 100000 100000 (fun _ _ => (aggVP [bytesCk 32 r51.1])),
      .res 100000 100000 (fun _ _ => (Log_e p_0 r51.2)),
      .slot 38 100000 100000 (fun _ _ => (aggVP [bytesCk 32 r52.1])),
      .res 100000 100000 (fun _ _ => (Log_e p_0 r52.2)),
      .slot 39 100000 100000 (fun _ _ => (slVP (dC 32) [r52.1])),
      .slot 40 11 100000 (fun v1_ _ => (eqVP v1_)),
      .res 11 100000 (fun v1_ _ => (own (v1_) 24 32 (dC 32) (x29 ++ [r52.1]))),
      .slot 11 11 100000 (fun v1_ _ => (eqVP v1_))] [0, 1, 2, 3, 4, 5, 6, 7, 8, 8, 9, 9, 10, 11, 11, 12] [⟨[5], [], [14], [], some 29⟩, ⟨[0], [], [15], [0], some 30⟩, ⟨[0], [], [16], [0, 1], some 31⟩, ⟨[2, 9], [], [17], [0, 1, 2], some 32⟩, ⟨[1], [], [18], [0, 1, 2, 3], some 33⟩, ⟨[6], [], [19], [0, 1, 2, 3, 4], some 34⟩, ⟨[7], [], [20], [0, 1, 2, 3, 4, 5], some 35⟩, ⟨[20], [], [21], [0, 1, 2, 3, 4, 5, 6], some 36⟩, ⟨[16, 17, 18, 19, 21], [12], [22, 23], [0, 1, 2, 3, 4, 5, 6, 7], some 37⟩, ⟨[15, 22], [23], [24, 25], [0, 1, 2, 3, 4, 5, 6, 7, 8], some 38⟩, ⟨[24], [], [26], [0, 1, 2, 3, 4, 5, 6, 7, 8, 9], some 39⟩, ⟨[14, 26], [11], [27, 28], [0, 1, 2, 3, 4, 5, 6, 7, 8, 9, 10], some 40⟩, ⟨[27], [5], [29], [0, 1, 2, 3, 4, 5, 6, 7, 8, 9, 10, 11], some 11⟩] [0, 1, 2, 3, 4, 29, 8, 9, 10, 13, 25, 28] mixed hn hG h (by kernel_rfl) ?_ ?_
      · exact ⟨⟨rfl, fun β => (GOk.plain (op_move (opt 0 rfl)) rfl)⟩, ⟨rfl, fun β => (GOk.plain (op_move (opt 0 rfl)) rfl)⟩, ⟨rfl, fun β => (GOk.plain (op_move (opt 0 rfl)) rfl)⟩, ⟨rfl, fun β => (GOk.plain (op_load_lb [] [bytesCk 32 a_1] [] 1 Tryd.isAgg24 Tryd.sizeOf24 (opt 0 rfl) rfl rfl rfl) rfl)⟩, ⟨rfl, fun β => (GOk.plain (op_move (opt 0 rfl)) rfl)⟩, ⟨rfl, fun β => (GOk.plain (op_move (opt 0 rfl)) rfl)⟩, ⟨rfl, fun β => (GOk.plain (op_move (opt 0 rfl)) rfl)⟩, ⟨rfl, fun β => (GOk.plain (op_bin bin_sub (opc (ic (by decide))) (opt 0 rfl)) rfl)⟩, ⟨rfl, fun β => (GOk.plain (op_call Tryd.call31 (lamport_Secret_ok hr51) ⟨(opt 0 rfl), (opt 1 rfl), (opt 2 rfl), (opt 3 rfl), (opt 4 rfl), trivial⟩) rfl)⟩, ⟨rfl, fun β => (GOk.plain (op_call Tryd.call34 (lamport_Public_ok hr52) ⟨(opt 0 rfl), (opt 1 rfl), trivial⟩) rfl)⟩, ⟨rfl, fun β => (GOk.plain (op_lit (xs := [.tmp 38]) (ys := [r52.1]) _ rfl Tryd.underlying46 Tryd.sizeOf24 Tryd.zeroValue24 rfl rfl (by decide) (by decide) ⟨⟨_, (opt 0 rfl), (cells_agg _)⟩, trivial⟩ (lens_dC 32)) rfl)⟩, ⟨rfl, fun β => (GOk.plain (op_ownAppend (i := Tryd.t24) Tryd.underlying46 Tryd.type24 rfl (lens_dC 32) (by decide) rfl (opt 0 rfl) (opt 1 rfl) hv53) rfl)⟩, ⟨rfl, fun β => (GOk.drop _ (GOk.plain (op_assign (V := (eqVP (β 11))) (opt 0 rfl)) rfl))⟩, trivial⟩
      clear h
      intro β a w h
      change SatL c [.slot 0 (eqVP p_0), .slot 2 (intVP .i64 a_2), .slot 5 (lpVP p1 0), .slot 7 (lpVP p2 0), .slot 10 (eqVP p50), .slot 11 (eqVP (β 11)), .slot 14 (intVP .i64 x25), .res (lb p1 24 [bytesCk 32 a_1]), .res (lb p2 24 [bytesCk 32 a_3]), .res (own p50 24 32 (dC 32) (x27 ++ [r48.1])), .res (Log_e p_0 r52.2), .res (own (β 11) 24 32 (dC 32) (x29 ++ [r52.1]))] a w at h
      generalize β 11 = p54 at h
      clear β
      show Code.wp Tryd.prog _ _ a w
      refine region_do (n := 44) [.slot 41 100000 100000 (fun _ _ => (intVP .i64 (IntKind.wrap .i64 (x25 + 1)))),
      .slot 14 100000 100000 (fun _ _ => (intVP .i64 (IntKind.wrap .i64 (x25 + 1))))] [0, 1] [⟨[6], [], [12], [], some 41⟩, ⟨[12], [6], [13], [0], some 14⟩] [0, 1, 2, 3, 4, 5, 13, 7, 8, 9, 10, 11] mixed hn hG h (by kernel_rfl) ?_ ?_
      · exact ⟨⟨rfl, fun β => (GOk.plain (op_bin bin_add (opt 0 rfl) (opc (ic (by decide)))) rfl)⟩, ⟨rfl, fun β => (GOk.drop _ (GOk.plain (op_move (opt 0 rfl)) rfl))⟩, trivial⟩
      clear h
      intro β a w h
      change SatL c [.slot 0 (eqVP p_0), .slot 2 (intVP .i64 a_2), .slot 5 (lpVP p1 0), .slot 7 (lpVP p2 0), .slot 10 (eqVP p50), .slot 11 (eqVP p54), .slot 14 (intVP .i64 (IntKind.wrap .i64 (x25 + 1))), .res (lb p1 24 [bytesCk 32 a_1]), .res (lb p2 24 [bytesCk 32 a_3]), .res (own p50 24 32 (dC 32) (x27 ++ [r48.1])), .res (Log_e p_0 r52.2), .res (own p54 24 32 (dC 32) (x29 ++ [r52.1]))] a w at h
      clear β
      obtain rfl := Option.some.inj hF
      exact ⟨rfl, p50, p54, h.sub [0, 1, 2, 3, 4, 5, 6, 10, 7, 8, 9, 11] (by rfl)⟩
    · replace hF := ff_of hb46 hF
      replace h := h.sub [0, 1, 2, 3, 4, 5, 6, 8, 9, 10, 11, 12] (by rfl)
      change SatL c [.slot 0 (eqVP p_0), .slot 2 (intVP .i64 a_2), .slot 5 (lpVP p1 0), .slot 7 (lpVP p2 0), .slot 10 (eqVP q28), .slot 11 (eqVP q30), .slot 14 (intVP .i64 x25), .res (Log_e p_0 x26), .res (lb p1 24 [bytesCk 32 a_1]), .res (lb p2 24 [bytesCk 32 a_3]), .res (own q28 24 32 (dC 32) x27), .res (own q30 24 32 (dC 32) x29)] a w at h
      refine wp_exit ?_
      obtain rfl := Option.some.inj hF
      exact ⟨exit_ne _, rfl, q28, q30, h.sub [4, 5, 7, 10, 11] (by rfl)⟩
  · clear hl56
    intro e a w hq
    cases cr55 with
    | ret r57 =>
      obtain ⟨rfl, hq⟩ := hq
      obtain rfl := Option.some.inj hF
      exact ⟨.inl rfl, hq⟩
    | next s58 =>
      obtain ⟨y59, y60, y61, y62⟩ := s58
      obtain ⟨rfl, q28, q30, h⟩ := hq
      change SatL c [.slot 10 (eqVP q28), .slot 11 (eqVP q30), .res (Log_e p_0 y60), .res (own q28 24 32 (dC 32) y61), .res (own q30 24 32 (dC 32) y62)] a w at h
      refine inBlock_at ?_
      show Code.wp Tryd.prog _ _ a w
      refine wp_seq ?_
      refine region_do (n := 44) [.slot 42 100000 100000 (fun _ _ => (eqVP q28)),
      .slot 43 100000 100000 (fun _ _ => (eqVP q30)),
      .slot 8 100000 100000 (fun _ _ => (eqVP q28)),
      .slot 9 100000 100000 (fun _ _ => (eqVP q30))] [0, 1, 2, 3] [⟨[0], [], [5], [], some 42⟩, ⟨[1], [], [6], [0], some 43⟩, ⟨[5], [], [7], [0, 1], some 8⟩, ⟨[6], [], [8], [0, 1, 2], some 9⟩] [7, 8, 2, 3, 4] mixed hn hG h (by kernel_rfl) ?_ ?_
      · exact ⟨⟨rfl, fun β => (GOk.plain (op_move (opt 0 rfl)) rfl)⟩, ⟨rfl, fun β => (GOk.plain (op_move (opt 0 rfl)) rfl)⟩, ⟨rfl, fun β => (GOk.plain (op_assign (opt 0 rfl)) rfl)⟩, ⟨rfl, fun β => (GOk.plain (op_assign (opt 0 rfl)) rfl)⟩, trivial⟩
      clear h
      intro β a w h
      change SatL c [.slot 8 (eqVP q28), .slot 9 (eqVP q30), .res (Log_e p_0 y60), .res (own q28 24 32 (dC 32) y61), .res (own q30 24 32 (dC 32) y62)] a w at h
      clear β
      show Code.wp Tryd.prog _ _ a w
      refine wp_ret ?_
      obtain rfl := Option.some.inj hF
      exact ⟨.inl rfl, ret2own h Tryd.results25 (r_tmp 0 rfl) (r_tmp 1 rfl) [3, 4, 2] (fun v => [own (tupAt 0 v) 24 32 (dC 32) y61, own (tupAt 1 v) 24 32 (dC 32) y62, (Log_e p_0 y60)]) rfl rfl rfl⟩

def lamport_Opened.b1 (a_1 : List UInt8) (a_2 : List (List UInt8)) (a_3 : List (List UInt8)) (x13 : Int) (x14 : Option O_Log) (x15 : List (List UInt8)) : Option (Flow ((List UInt8) × Bool × (Option O_Log)) (Int × (Option O_Log) × (List (List UInt8)))) := (if (decide (x13 < (32 : Int))) = true then ((lamport_Bit a_1 x13).bind fun r27 => (if (0 : Int) ≤ x13 ∧ x13 < a_2.length then ((lamport_Public x14 (a_2.getD x13.toNat default)).bind fun r29 => (if (0 : Int) ≤ IntKind.wrap .i64 ((IntKind.wrap .i64 (2 * x13)) + r27) ∧ IntKind.wrap .i64 ((IntKind.wrap .i64 (2 * x13)) + r27) < 64 then (if (0 : Int) ≤ x13 ∧ x13 < a_3.length then (if (0 : Int) ≤ IntKind.wrap .i64 ((IntKind.wrap .i64 ((IntKind.wrap .i64 (2 * x13)) + 1)) - r27) ∧ IntKind.wrap .i64 ((IntKind.wrap .i64 ((IntKind.wrap .i64 (2 * x13)) + 1)) - r27) < 64 then some (.cont (IntKind.wrap .i64 (x13 + 1), r29.2, (x15.set (IntKind.wrap .i64 ((IntKind.wrap .i64 (2 * x13)) + r27)).toNat r29.1).set (IntKind.wrap .i64 ((IntKind.wrap .i64 ((IntKind.wrap .i64 (2 * x13)) + 1)) - r27)).toNat (a_3.getD x13.toNat default))) else none) else none) else none)) else none)) else some (.brk (x13, x14, x15)))
def lamport_Opened.j1 (L_0 : Option O_Log) (a_1 : List UInt8) (a_2 : List (List UInt8)) (a_3 : List (List UInt8)) (x3 : Bool) : Option ((List UInt8) × Bool × (Option O_Log)) := (if x3 = true then some ((List.replicate 32 0), false, L_0) else ((loopN (fun s : Int × (Option O_Log) × (List (List UInt8)) => lamport_Opened.b1 a_1 a_2 a_3 s.1 s.2.1 s.2.2) ((32 - 0 : Int).toNat + 2) (0, L_0, (List.replicate 64 (List.replicate 32 0)))).bind fun cr => match cr with | .ret r => some r | .next (y37, y38, y39) => ((lamport_pair y38 y39).bind fun r40 => some (r40.1, true, r40.2))))
def lamport_Opened (L_0 : Option O_Log) (a_1 : List UInt8) (a_2 : List (List UInt8)) (a_3 : List (List UInt8)) : Option ((List UInt8) × Bool × (Option O_Log)) := (if (!decide ((a_2.length : Int) = (32 : Int))) = true then lamport_Opened.j1 L_0 a_1 a_2 a_3 true else lamport_Opened.j1 L_0 a_1 a_2 a_3 (!decide ((a_3.length : Int) = (32 : Int))))
theorem lamport_Opened_ok {p_0 : Value} {L_0 : Option O_Log} {a_1 : List UInt8} {a_2 : List (List UInt8)} {a_3 : List (List UInt8)} {r : (List UInt8) × Bool × (Option O_Log)} (hF : lamport_Opened L_0 a_1 a_2 a_3 = some r) : CallOk Tryd.prog KG 26 [(eqVP p_0), (aggVP [bytesCk 32 a_1]), (slVP (dC 32) a_2), (slVP (dC 32) a_3)] [(Log_e p_0 L_0)] (fun _ => [Log_e p_0 r.2.2]) (tupVP [(aggVP [bytesCk 32 r.1]), (boolVP r.2.1)]) := by
  refine CallOk.intro 53 Tryd.func26 rfl Tryd.ntmps26 (Nat.le_of_ble_eq_true rfl) ?_
  intro c a w hG hn h
  unfold lamport_Opened at hF
  change SatL c [.slot 0 (eqVP p_0), .slot 1 (aggVP [bytesCk 32 a_1]), .slot 2 (slVP (dC 32) a_2), .slot 3 (slVP (dC 32) a_3), .res (Log_e p_0 L_0)] a w at h
  refine wp_seq ?_
  refine region_do (n := 53) [.slot 5 0 100000 (fun v1_ _ => (lpVP v1_ 0)),
      .res 0 100000 (fun v1_ _ => (lb (v1_) 24 [bytesCk 32 a_1])),
      .slot 8 1 100000 (fun v1_ _ => (lpVP v1_ 0)),
      .res 1 100000 (fun v1_ _ => (lb (v1_) 24 [bytesCk 32 (List.replicate 32 0)])),
      .slot 9 100000 100000 (fun _ _ => (boolVP false))] [0, 0, 1, 1, 2] [⟨[1], [], [5, 6], [], some 5⟩, ⟨[], [], [7, 8], [0], some 8⟩, ⟨[], [], [9], [0, 1], some 9⟩] [0, 2, 3, 5, 7, 4, 6, 8] mixed hn hG h (by kernel_rfl) ?_ ?_
  · exact ⟨⟨rfl, fun β => (GOk.plain (op_box (opt 0 rfl) (cells_agg _)) rfl)⟩, ⟨rfl, fun β => (GOk.plain (op_alloc Tryd.zeroValue24 z24) rfl)⟩, ⟨rfl, fun β => (GOk.plain (op_assign (opc (bc _))) rfl)⟩, trivial⟩
  clear h
  intro β a w h
  change SatL c [.slot 0 (eqVP p_0), .slot 2 (slVP (dC 32) a_2), .slot 3 (slVP (dC 32) a_3), .slot 5 (lpVP (β 0) 0), .slot 8 (lpVP (β 1) 0), .res (Log_e p_0 L_0), .res (lb (β 0) 24 [bytesCk 32 a_1]), .res (lb (β 1) 24 [bytesCk 32 (List.replicate 32 0)])] a w at h
  generalize β 0 = p1 at h
  generalize β 1 = p2 at h
  clear β
  show Code.wp Tryd.prog _ _ a w
  refine wp_seq ?_
  refine wp_seq ?_
  refine wp_cut (fun a w => ∃ (x3 : Bool), lamport_Opened.j1 L_0 a_1 a_2 a_3 x3 = some r ∧ SatL c [.slot 0 (eqVP p_0), .slot 2 (slVP (dC 32) a_2), .slot 3 (slVP (dC 32) a_3), .slot 5 (lpVP p1 0), .slot 8 (lpVP p2 0), .slot 20 (boolVP x3), .res (Log_e p_0 L_0), .res (lb p1 24 [bytesCk 32 a_1]), .res (lb p2 24 [bytesCk 32 (List.replicate 32 0)])] a w) ?_ ?_
  · rcases Bool.eq_false_or_eq_true (!decide ((a_2.length : Int) = (32 : Int))) with hb41 | hb41
    · replace hF := tt_of hb41 hF
      refine region_do (n := 53) [.slot 13 100000 100000 (fun _ _ => (slVP (dC 32) a_2)),
      .slot 14 100000 100000 (fun _ _ => (intVP .i64 (a_2.length : Int))),
      .slot 15 100000 100000 (fun _ _ => (boolVP (!decide ((a_2.length : Int) = (32 : Int))))),
      .slot 16 100000 100000 (fun _ _ => (boolVP (!decide ((a_2.length : Int) = (32 : Int))))),
      .slot 17 100000 100000 (fun _ _ => (eqVP undef)),
      .slot 18 100000 100000 (fun _ _ => (eqVP undef)),
      .slot 19 100000 100000 (fun _ _ => (eqVP undef)),
      .slot 20 100000 100000 (fun _ _ => (boolVP true))] [0, 1, 2, 3, 4, 5, 6, 7] [⟨[1], [], [8], [], some 13⟩, ⟨[8], [], [9], [0], some 14⟩, ⟨[9], [], [10], [0, 1], some 15⟩, ⟨[10], [], [11], [0, 1, 2], some 16⟩, ⟨[11], [], [12], [0, 1, 2, 3], some 17⟩, ⟨[11], [], [13], [0, 1, 2, 3, 4], some 18⟩, ⟨[11], [], [14], [0, 1, 2, 3, 4, 5], some 19⟩, ⟨[11], [], [15], [0, 1, 2, 3, 4, 5, 6], some 20⟩] [0, 1, 2, 3, 4, 15, 5, 6, 7] mixed hn hG h (by kernel_rfl) ?_ ?_
      · exact ⟨⟨rfl, fun β => (GOk.plain (op_move (opt 0 rfl)) rfl)⟩, ⟨rfl, fun β => (GOk.plain (op_len_sl Tryd.underlying46 (opt 0 rfl)) rfl)⟩, ⟨rfl, fun β => (GOk.plain (op_bin bin_neq (opt 0 rfl) (opc (ic (by decide)))) rfl)⟩, ⟨rfl, fun β => (GOk.plain (op_move (opt 0 rfl)) rfl)⟩, ⟨rfl, fun β => (GOk.off_v (want := false) hb41 rfl rfl rfl rfl)⟩, ⟨rfl, fun β => (GOk.off_v (want := false) hb41 rfl rfl rfl rfl)⟩, ⟨rfl, fun β => (GOk.off_v (want := false) hb41 rfl rfl rfl rfl)⟩, ⟨rfl, fun β => (GOk.plain (op_pick_t hb41 (opt 0 rfl) (opc (bc _))) rfl)⟩, trivial⟩
      clear h
      intro β a w h
      change SatL c [.slot 0 (eqVP p_0), .slot 2 (slVP (dC 32) a_2), .slot 3 (slVP (dC 32) a_3), .slot 5 (lpVP p1 0), .slot 8 (lpVP p2 0), .slot 20 (boolVP true), .res (Log_e p_0 L_0), .res (lb p1 24 [bytesCk 32 a_1]), .res (lb p2 24 [bytesCk 32 (List.replicate 32 0)])] a w at h
      clear β
      exact ⟨true, hF, h.sub [0, 1, 2, 3, 4, 5, 6, 7, 8] (by rfl)⟩
    · replace hF := ff_of hb41 hF
      refine region_do (n := 53) [.slot 13 100000 100000 (fun _ _ => (slVP (dC 32) a_2)),
      .slot 14 100000 100000 (fun _ _ => (intVP .i64 (a_2.length : Int))),
      .slot 15 100000 100000 (fun _ _ => (boolVP (!decide ((a_2.length : Int) = (32 : Int))))),
      .slot 16 100000 100000 (fun _ _ => (boolVP (!decide ((a_2.length : Int) = (32 : Int))))),
      .slot 17 100000 100000 (fun _ _ => (slVP (dC 32) a_3)),
      .slot 18 100000 100000 (fun _ _ => (intVP .i64 (a_3.length : Int))),
      .slot 19 100000 100000 (fun _ _ => (boolVP (!decide ((a_3.length : Int) = (32 : Int))))),
      .slot 20 100000 100000 (fun _ _ => (boolVP (!decide ((a_3.length : Int) = (32 : Int)))))] [0, 1, 2, 3, 4, 5, 6, 7] [⟨[1], [], [8], [], some 13⟩, ⟨[8], [], [9], [0], some 14⟩, ⟨[9], [], [10], [0, 1], some 15⟩, ⟨[10], [], [11], [0, 1, 2], some 16⟩, ⟨[11, 2], [], [12], [0, 1, 2, 3], some 17⟩, ⟨[11, 12], [], [13], [0, 1, 2, 3, 4], some 18⟩, ⟨[11, 13], [], [14], [0, 1, 2, 3, 4, 5], some 19⟩, ⟨[11, 14], [], [15], [0, 1, 2, 3, 4, 5, 6], some 20⟩] [0, 1, 2, 3, 4, 15, 5, 6, 7] mixed hn hG h (by kernel_rfl) ?_ ?_
      · exact ⟨⟨rfl, fun β => (GOk.plain (op_move (opt 0 rfl)) rfl)⟩, ⟨rfl, fun β => (GOk.plain (op_len_sl Tryd.underlying46 (opt 0 rfl)) rfl)⟩, ⟨rfl, fun β => (GOk.plain (op_bin bin_neq (opt 0 rfl) (opc (ic (by decide)))) rfl)⟩, ⟨rfl, fun β => (GOk.plain (op_move (opt 0 rfl)) rfl)⟩, ⟨rfl, fun β => (GOk.on_eq hb41 rfl rfl rfl (op_move (opt 0 rfl)))⟩, ⟨rfl, fun β => (GOk.on_eq hb41 rfl rfl rfl (op_len_sl Tryd.underlying46 (opt 0 rfl)))⟩, ⟨rfl, fun β => (GOk.on_eq hb41 rfl rfl rfl (op_bin bin_neq (opt 0 rfl) (opc (ic (by decide)))))⟩, ⟨rfl, fun β => (GOk.plain (op_pick_f hb41 (opt 0 rfl) (opt 1 rfl)) rfl)⟩, trivial⟩
      clear h
      intro β a w h
      change SatL c [.slot 0 (eqVP p_0), .slot 2 (slVP (dC 32) a_2), .slot 3 (slVP (dC 32) a_3), .slot 5 (lpVP p1 0), .slot 8 (lpVP p2 0), .slot 20 (boolVP (!decide ((a_3.length : Int) = (32 : Int)))), .res (Log_e p_0 L_0), .res (lb p1 24 [bytesCk 32 a_1]), .res (lb p2 24 [bytesCk 32 (List.replicate 32 0)])] a w at h
      clear β
      exact ⟨!decide ((a_3.length : Int) = (32 : Int)), hF, h.sub [0, 1, 2, 3, 4, 5, 6, 7, 8] (by rfl)⟩
  · clear h hF
    rintro a w ⟨x3, hF, h⟩
    unfold lamport_Opened.j1 at hF
    show Code.wp Tryd.prog _ _ a w
    refine cond_L h 5 rfl (fun hb4 => ?_) (fun hb4 => ?_)
    · replace hF := tt_of hb4 hF
      replace h := h.sub [4, 6, 8] (by rfl)
      change SatL c [.slot 8 (lpVP p2 0), .res (Log_e p_0 L_0), .res (lb p2 24 [bytesCk 32 (List.replicate 32 0)])] a w at h
      refine wp_seq ?_
      refine region_do (n := 53) [.slot 21 100000 100000 (fun _ _ => (aggVP [bytesCk 32 (List.replicate 32 0)])),
      .res 100000 100000 (fun _ _ => (lb p2 24 [bytesCk 32 (List.replicate 32 0)])),
      .slot 9 100000 100000 (fun _ _ => (boolVP false))] [0, 1, 2] [⟨[], [], [3], [], some 21⟩, ⟨[0, 3], [2], [4], [0], none⟩, ⟨[], [], [5], [0, 1], some 9⟩] [0, 5, 1, 4] mixed hn hG h (by kernel_rfl) ?_ ?_
      · exact ⟨⟨rfl, fun β => (GOk.plain (build0 Tryd.zeroValue24 Tryd.underlying24 Tryd.sizeOf5 z24) rfl)⟩, ⟨rfl, fun β => (GOk.plain (op_store_lb [] [bytesCk 32 (List.replicate 32 0)] [] [bytesCk 32 (List.replicate 32 0)] Tryd.sizeOf24 (opt 0 rfl) (opt 1 rfl) (cells_agg _) rfl rfl rfl) rfl)⟩, ⟨rfl, fun β => (GOk.plain (op_assign (opc (bc _))) rfl)⟩, trivial⟩
      clear h
      intro β a w h
      change SatL c [.slot 8 (lpVP p2 0), .slot 9 (boolVP false), .res (Log_e p_0 L_0), .res (lb p2 24 [bytesCk 32 (List.replicate 32 0)])] a w at h
      clear β
      show Code.wp Tryd.prog _ _ a w
      refine wp_ret ?_
      obtain rfl := Option.some.inj hF
      exact ⟨.inl rfl, retn h (rs := [.cell 8 24, .tmp 9]) (Vs := [(aggVP [bytesCk 32 (List.replicate 32 0)]), (boolVP false)]) Tryd.results26 (by decide) ⟨(r_cell 0 3 rfl rfl Tryd.isAgg24 Tryd.sizeOf24 rfl), (r_tmp 1 rfl), trivial⟩ [2] [(Log_e p_0 L_0)] rfl rfl rfl⟩
    · replace hF := ff_of hb4 hF
      replace h := h.sub [0, 1, 2, 3, 4, 6, 7, 8] (by rfl)
      change SatL c [.slot 0 (eqVP p_0), .slot 2 (slVP (dC 32) a_2), .slot 3 (slVP (dC 32) a_3), .slot 5 (lpVP p1 0), .slot 8 (lpVP p2 0), .res (Log_e p_0 L_0), .res (lb p1 24 [bytesCk 32 a_1]), .res (lb p2 24 [bytesCk 32 (List.replicate 32 0)])] a w at h
      refine wp_skip ?_
      show Code.wp Tryd.prog _ _ a w
      refine wp_seq ?_
      refine region_do (n := 53) [.slot 10 0 100000 (fun v1_ _ => (lpVP v1_ 0)),
      .res 0 100000 (fun v1_ _ => (lb (v1_) 77 [arrCk 64 32 (dC 32) (lens_dC 32) (List.replicate 64 (List.replicate 32 0))]))] [0, 0] [⟨[], [], [8, 9], [], some 10⟩] [0, 1, 2, 3, 4, 8, 5, 6, 7, 9] mixed hn hG h (by kernel_rfl) ?_ ?_
      · exact ⟨⟨rfl, fun β => (GOk.plain (op_alloc Tryd.zeroValue77 z77) rfl)⟩, trivial⟩
      clear h
      intro β a w h
      change SatL c [.slot 0 (eqVP p_0), .slot 2 (slVP (dC 32) a_2), .slot 3 (slVP (dC 32) a_3), .slot 5 (lpVP p1 0), .slot 8 (lpVP p2 0), .slot 10 (lpVP (β 0) 0), .res (Log_e p_0 L_0), .res (lb p1 24 [bytesCk 32 a_1]), .res (lb p2 24 [bytesCk 32 (List.replicate 32 0)]), .res (lb (β 0) 77 [arrCk 64 32 (dC 32) (lens_dC 32) (List.replicate 64 (List.replicate 32 0))])] a w at h
      generalize β 0 = p5 at h
      clear β
      show Code.wp Tryd.prog _ _ a w
      refine wp_seq ?_
      refine wp_seq ?_
      refine region_do (n := 53) [.slot 22 100000 100000 (fun _ _ => (intVP .i64 0))] [0] [⟨[], [], [10], [], some 22⟩] [0, 1, 2, 3, 4, 5, 10, 6, 7, 8, 9] mixed hn hG h (by kernel_rfl) ?_ ?_
      · exact ⟨⟨rfl, fun β => (GOk.plain (op_move (opc (ic (by decide)))) rfl)⟩, trivial⟩
      clear h
      intro β a w h
      change SatL c [.slot 0 (eqVP p_0), .slot 2 (slVP (dC 32) a_2), .slot 3 (slVP (dC 32) a_3), .slot 5 (lpVP p1 0), .slot 8 (lpVP p2 0), .slot 10 (lpVP p5 0), .slot 22 (intVP .i64 0), .res (Log_e p_0 L_0), .res (lb p1 24 [bytesCk 32 a_1]), .res (lb p2 24 [bytesCk 32 (List.replicate 32 0)]), .res (lb p5 77 [arrCk 64 32 (dC 32) (lens_dC 32) (List.replicate 64 (List.replicate 32 0))])] a w at h
      clear β
      show Code.wp Tryd.prog _ _ a w
      refine wp_block ?_
      obtain ⟨cr33, hl34, hF⟩ := bind_some hF
      refine wp_mono (wp_loopN (R := (List UInt8) × Bool × (Option O_Log)) (S := Int × (Option O_Log) × (List (List UInt8))) (fun s a w => SatL c [.slot 0 (eqVP p_0), .slot 2 (slVP (dC 32) a_2), .slot 3 (slVP (dC 32) a_3), .slot 5 (lpVP p1 0), .slot 8 (lpVP p2 0), .slot 10 (lpVP p5 0), .slot 22 (intVP .i64 s.1), .res (Log_e p_0 s.2.1), .res (lb p1 24 [bytesCk 32 a_1]), .res (lb p2 24 [bytesCk 32 (List.replicate 32 0)]), .res (lb p5 77 [arrCk 64 32 (dC 32) (lens_dC 32) s.2.2])] a w) (fun res e a w => match res with | .next s => e = .exit 0 ∧ SatL c [.slot 0 (eqVP p_0), .slot 8 (lpVP p2 0), .slot 10 (lpVP p5 0), .res (Log_e p_0 s.2.1), .res (lb p2 24 [bytesCk 32 (List.replicate 32 0)]), .res (lb p5 77 [arrCk 64 32 (dC 32) (lens_dC 32) s.2.2])] a w | .ret r => e = .ret ∧ RetOk Tryd.prog Tryd.f26 c (tupVP [(aggVP [bytesCk 32 r.1]), (boolVP r.2.1)]) (fun _ => [Log_e p_0 r.2.2]) a w) ?_ _ (0, L_0, (List.replicate 64 (List.replicate 32 0))) _ _ _ (h.sub [0, 1, 2, 3, 4, 5, 6, 7, 8, 9, 10] (by rfl)) hl34) ?_
      · clear hl34 hF h
        intro s a w o h hF
        obtain ⟨x13, x14, x15⟩ := s
        change lamport_Opened.b1 a_1 a_2 a_3 x13 x14 x15 = some o at hF
        unfold lamport_Opened.b1 at hF
        change SatL c [.slot 0 (eqVP p_0), .slot 2 (slVP (dC 32) a_2), .slot 3 (slVP (dC 32) a_3), .slot 5 (lpVP p1 0), .slot 8 (lpVP p2 0), .slot 10 (lpVP p5 0), .slot 22 (intVP .i64 x13), .res (Log_e p_0 x14), .res (lb p1 24 [bytesCk 32 a_1]), .res (lb p2 24 [bytesCk 32 (List.replicate 32 0)]), .res (lb p5 77 [arrCk 64 32 (dC 32) (lens_dC 32) x15])] a w at h
        refine wp_seq ?_
        refine region_do (n := 53) [.slot 23 100000 100000 (fun _ _ => (boolVP (decide (x13 < (32 : Int)))))] [0] [⟨[6], [], [11], [], some 23⟩] [0, 1, 2, 3, 4, 5, 6, 11, 7, 8, 9, 10] mixed hn hG h (by kernel_rfl) ?_ ?_
        · exact ⟨⟨rfl, fun β => (GOk.plain (op_bin bin_lss (opt 0 rfl) (opc (ic (by decide)))) rfl)⟩, trivial⟩
        clear h
        intro β a w h
        change SatL c [.slot 0 (eqVP p_0), .slot 2 (slVP (dC 32) a_2), .slot 3 (slVP (dC 32) a_3), .slot 5 (lpVP p1 0), .slot 8 (lpVP p2 0), .slot 10 (lpVP p5 0), .slot 22 (intVP .i64 x13), .slot 23 (boolVP (decide (x13 < (32 : Int)))), .res (Log_e p_0 x14), .res (lb p1 24 [bytesCk 32 a_1]), .res (lb p2 24 [bytesCk 32 (List.replicate 32 0)]), .res (lb p5 77 [arrCk 64 32 (dC 32) (lens_dC 32) x15])] a w at h
        clear β
        show Code.wp Tryd.prog _ _ a w
        refine wp_seq ?_
        refine cond_L h 7 rfl (fun hb26 => ?_) (fun hb26 => ?_)
        · replace hF := tt_of hb26 hF
          replace h := h.sub [0, 1, 2, 3, 4, 5, 6, 8, 9, 10, 11] (by rfl)
          change SatL c [.slot 0 (eqVP p_0), .slot 2 (slVP (dC 32) a_2), .slot 3 (slVP (dC 32) a_3), .slot 5 (lpVP p1 0), .slot 8 (lpVP p2 0), .slot 10 (lpVP p5 0), .slot 22 (intVP .i64 x13), .res (Log_e p_0 x14), .res (lb p1 24 [bytesCk 32 a_1]), .res (lb p2 24 [bytesCk 32 (List.replicate 32 0)]), .res (lb p5 77 [arrCk 64 32 (dC 32) (lens_dC 32) x15])] a w at h
          refine wp_skip ?_
          show Code.wp Tryd.prog _ _ a w
          refine wp_seq ?_
          refine wp_block ?_
          refine wp_seq ?_
          refine region_do (n := 53) [.slot 24 100000 100000 (fun _ _ => (intVP .i64 x13)),
      .slot 11 100000 100000 (fun _ _ => (intVP .i64 x13))] [0, 1] [⟨[6], [], [11], [], some 24⟩, ⟨[11], [], [12], [0], some 11⟩] [0, 1, 2, 3, 4, 5, 12, 6, 7, 8, 9, 10] mixed hn hG h (by kernel_rfl) ?_ ?_
          · exact ⟨⟨rfl, fun β => (GOk.plain (op_move (opt 0 rfl)) rfl)⟩, ⟨rfl, fun β => (GOk.plain (op_assign (opt 0 rfl)) rfl)⟩, trivial⟩
          clear h
          intro β a w h
          change SatL c [.slot 0 (eqVP p_0), .slot 2 (slVP (dC 32) a_2), .slot 3 (slVP (dC 32) a_3), .slot 5 (lpVP p1 0), .slot 8 (lpVP p2 0), .slot 10 (lpVP p5 0), .slot 11 (intVP .i64 x13), .slot 22 (intVP .i64 x13), .res (Log_e p_0 x14), .res (lb p1 24 [bytesCk 32 a_1]), .res (lb p2 24 [bytesCk 32 (List.replicate 32 0)]), .res (lb p5 77 [arrCk 64 32 (dC 32) (lens_dC 32) x15])] a w at h
          clear β
          show Code.wp Tryd.prog _ _ a w
          refine wp_seq ?_
          obtain ⟨r27, hr27, hF⟩ := bind_some hF
          refine region_do (n := 53) [.slot 25 100000 100000 (fun _ _ => (aggVP [bytesCk 32 a_1])),
      .slot 26 100000 100000 (fun _ _ => (intVP .i64 x13)),
      .slot 27 100000 100000 (fun _ _ => (intVP .i64 r27)),
      .slot 12 100000 100000 (fun _ _ => (intVP .i64 r27))] [0, 1, 2, 3] [⟨[3, 9], [], [12], [], some 25⟩, ⟨[6], [], [13], [0], some 26⟩, ⟨[12, 13], [], [14], [0, 1], some 27⟩, ⟨[14], [], [15], [0, 1, 2], some 12⟩] [0, 1, 2, 3, 4, 5, 6, 15, 7, 8, 9, 10, 11] mixed hn hG h (by kernel_rfl) ?_ ?_
          · exact ⟨⟨rfl, fun β => (GOk.plain (op_load_lb [] [bytesCk 32 a_1] [] 1 Tryd.isAgg24 Tryd.sizeOf24 (opt 0 rfl) rfl rfl rfl) rfl)⟩, ⟨rfl, fun β => (GOk.plain (op_move (opt 0 rfl)) rfl)⟩, ⟨rfl, fun β => (GOk.plain (op_call Tryd.call29 (lamport_Bit_ok hr27) ⟨(opt 0 rfl), (opt 1 rfl), trivial⟩) rfl)⟩, ⟨rfl, fun β => (GOk.plain (op_assign (opt 0 rfl)) rfl)⟩, trivial⟩
          clear h
          intro β a w h
          change SatL c [.slot 0 (eqVP p_0), .slot 2 (slVP (dC 32) a_2), .slot 3 (slVP (dC 32) a_3), .slot 5 (lpVP p1 0), .slot 8 (lpVP p2 0), .slot 10 (lpVP p5 0), .slot 11 (intVP .i64 x13), .slot 12 (intVP .i64 r27), .slot 22 (intVP .i64 x13), .res (Log_e p_0 x14), .res (lb p1 24 [bytesCk 32 a_1]), .res (lb p2 24 [bytesCk 32 (List.replicate 32 0)]), .res (lb p5 77 [arrCk 64 32 (dC 32) (lens_dC 32) x15])] a w at h
          clear β
          show Code.wp Tryd.prog _ _ a w
          refine wp_seq ?_
          obtain ⟨hv28, hF⟩ := ite_some hF
          obtain ⟨r29, hr29, hF⟩ := bind_some hF
          obtain ⟨hv30, hF⟩ := ite_some hF
          refine region_do (n := 53) [.slot 28 100000 100000 (fun _ _ => (intVP .i64 x13)),
      .slot 29 100000 100000 (fun _ _ => (intVP .i64 (IntKind.wrap .i64 (2 * x13)))),
      .slot 30 100000 100000 (fun _ _ => (intVP .i64 r27)),
      .slot 31 100000 100000 (fun _ _ => (intVP .i64 (IntKind.wrap .i64 ((IntKind.wrap .i64 (2 * x13)) + r27)))),
      .slot 32 100000 100000 (fun _ _ => (eqVP p_0)),
      .slot 33 100000 100000 (fun _ _ => (slVP (dC 32) a_2)),
      .slot 34 100000 100000 (fun _ _ => (intVP .i64 x13)),
      .slot 35 100000 100000 (fun _ _ => (ppVP [bytesCk 32 (a_2.getD x13.toNat default)])),
      .slot 36 100000 100000 (fun _ _ => (aggVP [bytesCk 32 (a_2.getD x13.toNat default)])),
      .slot 37 100000 100000 (fun _ _ => (aggVP [bytesCk 32 r29.1])),
      .res 100000 100000 (fun _ _ => (Log_e p_0 r29.2)),
      .slot 38 100000 100000 (fun _ _ => (lpVP p5 (0 + (IntKind.wrap .i64 ((IntKind.wrap .i64 (2 * x13)) + r27)).toNat * 32))),
      .res 100000 100000 (fun _ _ => (lb p5 77 [arrCk 64 32 (dC 32) (lens_dC 32) (x15.set (IntKind.wrap .i64 ((IntKind.wrap .i64 (2 * x13)) + r27)).toNat r29.1)]))] [0, 1, 2, 3, 4, 5, 6, 7, 8, 9, 9, 10, 11] [⟨[6], [], [13], [], some 28⟩, ⟨[13], [], [14], [0], some 29⟩, ⟨[7], [], [15], [0, 1], some 30⟩, ⟨[14, 15], [], [16], [0, 1, 2], some 31⟩, ⟨[0], [], [17], [0, 1, 2, 3], some 32⟩, ⟨[1], [], [18], [0, 1, 2, 3, 4], some 33⟩, ⟨[6], [], [19], [0, 1, 2, 3, 4, 5], some 34⟩, ⟨[18, 19], [], [20], [0, 1, 2, 3, 4, 5, 6], some 35⟩, ⟨[20], [], [21], [0, 1, 2, 3, 4, 5, 6, 7], some 36⟩, ⟨[17, 21], [9], [22, 23], [0, 1, 2, 3, 4, 5, 6, 7, 8], some 37⟩, ⟨[5, 16], [], [24], [0, 1, 2, 3, 4, 5, 6, 7, 8, 9], some 38⟩, ⟨[24, 22], [12], [25], [0, 1, 2, 3, 4, 5, 6, 7, 8, 9, 10], none⟩] [0, 1, 2, 3, 4, 5, 6, 7, 8, 10, 11, 25, 23] mixed hn hG h (by kernel_rfl) ?_ ?_
          · exact ⟨⟨rfl, fun β => (GOk.plain (op_move (opt 0 rfl)) rfl)⟩, ⟨rfl, fun β => (GOk.plain (op_bin bin_mul (opc (ic (by decide))) (opt 0 rfl)) rfl)⟩, ⟨rfl, fun β => (GOk.plain (op_move (opt 0 rfl)) rfl)⟩, ⟨rfl, fun β => (GOk.plain (op_bin bin_add (opt 0 rfl) (opt 1 rfl)) rfl)⟩, ⟨rfl, fun β => (GOk.plain (op_move (opt 0 rfl)) rfl)⟩, ⟨rfl, fun β => (GOk.plain (op_move (opt 0 rfl)) rfl)⟩, ⟨rfl, fun β => (GOk.plain (op_move (opt 0 rfl)) rfl)⟩, ⟨rfl, fun β => (GOk.plain (op_indexAddr_sl Tryd.underlying46 Tryd.sizeOf24 (lens_dC 32) (opt 0 rfl) (opt 1 rfl) hv28) rfl)⟩, ⟨rfl, fun β => (GOk.plain (op_load_pp [bytesCk 32 (a_2.getD x13.toNat default)] [] Tryd.isAgg24 Tryd.sizeOf24 (opt 0 rfl) rfl) rfl)⟩, ⟨rfl, fun β => (GOk.plain (op_call Tryd.call34 (lamport_Public_ok hr29) ⟨(opt 0 rfl), (opt 1 rfl), trivial⟩) rfl)⟩, ⟨rfl, fun β => (GOk.plain (op_indexAddr_lb Tryd.underlying77 Tryd.sizeOf24 (opt 0 rfl) (opt 1 rfl) hv30) rfl)⟩, ⟨rfl, fun β => (GOk.plain (op_store_lbA (i := IntKind.wrap .i64 ((IntKind.wrap .i64 (2 * x13)) + r27)) [] [] Tryd.sizeOf24 (opt 0 rfl) (opt 1 rfl) rfl hv30) rfl)⟩, trivial⟩
          clear h
          intro β a w h
          change SatL c [.slot 0 (eqVP p_0), .slot 2 (slVP (dC 32) a_2), .slot 3 (slVP (dC 32) a_3), .slot 5 (lpVP p1 0), .slot 8 (lpVP p2 0), .slot 10 (lpVP p5 0), .slot 11 (intVP .i64 x13), .slot 12 (intVP .i64 r27), .slot 22 (intVP .i64 x13), .res (lb p1 24 [bytesCk 32 a_1]), .res (lb p2 24 [bytesCk 32 (List.replicate 32 0)]), .res (lb p5 77 [arrCk 64 32 (dC 32) (lens_dC 32) (x15.set (IntKind.wrap .i64 ((IntKind.wrap .i64 (2 * x13)) + r27)).toNat r29.1)]), .res (Log_e p_0 r29.2)] a w at h
          clear β
          show Code.wp Tryd.prog _ _ a w
          obtain ⟨hv31, hF⟩ := ite_some hF
          obtain ⟨hv32, hF⟩ := ite_some hF
          refine region_do (n := 53) [.slot 39 100000 100000 (fun _ _ => (intVP .i64 x13)),
      .slot 40 100000 100000 (fun _ _ => (intVP .i64 (IntKind.wrap .i64 (2 * x13)))),
      .slot 41 100000 100000 (fun _ _ => (intVP .i64 (IntKind.wrap .i64 ((IntKind.wrap .i64 (2 * x13)) + 1)))),
      .slot 42 100000 100000 (fun _ _ => (intVP .i64 r27)),
      .slot 43 100000 100000 (fun _ _ => (intVP .i64 (IntKind.wrap .i64 ((IntKind.wrap .i64 ((IntKind.wrap .i64 (2 * x13)) + 1)) - r27)))),
      .slot 44 100000 100000 (fun _ _ => (slVP (dC 32) a_3)),
      .slot 45 100000 100000 (fun _ _ => (intVP .i64 x13)),
      .slot 46 100000 100000 (fun _ _ => (ppVP [bytesCk 32 (a_3.getD x13.toNat default)])),
      .slot 47 100000 100000 (fun _ _ => (aggVP [bytesCk 32 (a_3.getD x13.toNat default)])),
      .slot 48 100000 100000 (fun _ _ => (lpVP p5 (0 + (IntKind.wrap .i64 ((IntKind.wrap .i64 ((IntKind.wrap .i64 (2 * x13)) + 1)) - r27)).toNat * 32))),
      .res 100000 100000 (fun _ _ => (lb p5 77 [arrCk 64 32 (dC 32) (lens_dC 32) ((x15.set (IntKind.wrap .i64 ((IntKind.wrap .i64 (2 * x13)) + r27)).toNat r29.1).set (IntKind.wrap .i64 ((IntKind.wrap .i64 ((IntKind.wrap .i64 (2 * x13)) + 1)) - r27)).toNat (a_3.getD x13.toNat default))]))] [0, 1, 2, 3, 4, 5, 6, 7, 8, 9, 10] [⟨[6], [], [13], [], some 39⟩, ⟨[13], [], [14], [0], some 40⟩, ⟨[14], [], [15], [0, 1], some 41⟩, ⟨[7], [], [16], [0, 1, 2], some 42⟩, ⟨[15, 16], [], [17], [0, 1, 2, 3], some 43⟩, ⟨[2], [], [18], [0, 1, 2, 3, 4], some 44⟩, ⟨[6], [], [19], [0, 1, 2, 3, 4, 5], some 45⟩, ⟨[18, 19], [], [20], [0, 1, 2, 3, 4, 5, 6], some 46⟩, ⟨[20], [], [21], [0, 1, 2, 3, 4, 5, 6, 7], some 47⟩, ⟨[5, 17], [], [22], [0, 1, 2, 3, 4, 5, 6, 7, 8], some 48⟩, ⟨[22, 21], [11], [23], [0, 1, 2, 3, 4, 5, 6, 7, 8, 9], none⟩] [0, 1, 2, 3, 4, 5, 8, 9, 10, 23, 12] mixed hn hG h (by kernel_rfl) ?_ ?_
          · exact ⟨⟨rfl, fun β => (GOk.plain (op_move (opt 0 rfl)) rfl)⟩, ⟨rfl, fun β => (GOk.plain (op_bin bin_mul (opc (ic (by decide))) (opt 0 rfl)) rfl)⟩, ⟨rfl, fun β => (GOk.plain (op_bin bin_add (opt 0 rfl) (opc (ic (by decide)))) rfl)⟩, ⟨rfl, fun β => (GOk.plain (op_move (opt 0 rfl)) rfl)⟩, ⟨rfl, fun β => (GOk.plain (op_bin bin_sub (opt 0 rfl) (opt 1 rfl)) rfl)⟩, ⟨rfl, fun β => (GOk.plain (op_move (opt 0 rfl)) rfl)⟩, ⟨rfl, fun β => (GOk.plain (op_move (opt 0 rfl)) rfl)⟩, ⟨rfl, fun β => (GOk.plain (op_indexAddr_sl Tryd.underlying46 Tryd.sizeOf24 (lens_dC 32) (opt 0 rfl) (opt 1 rfl) hv31) rfl)⟩, ⟨rfl, fun β => (GOk.plain (op_load_pp [bytesCk 32 (a_3.getD x13.toNat default)] [] Tryd.isAgg24 Tryd.sizeOf24 (opt 0 rfl) rfl) rfl)⟩, ⟨rfl, fun β => (GOk.plain (op_indexAddr_lb Tryd.underlying77 Tryd.sizeOf24 (opt 0 rfl) (opt 1 rfl) hv32) rfl)⟩, ⟨rfl, fun β => (GOk.plain (op_store_lbA (i := IntKind.wrap .i64 ((IntKind.wrap .i64 ((IntKind.wrap .i64 (2 * x13)) + 1)) - r27)) [] [] Tryd.sizeOf24 (opt 0 rfl) (opt 1 rfl) rfl hv32) rfl)⟩, trivial⟩
          clear h
          intro β a w h
          change SatL c [.slot 0 (eqVP p_0), .slot 2 (slVP (dC 32) a_2), .slot 3 (slVP (dC 32) a_3), .slot 5 (lpVP p1 0), .slot 8 (lpVP p2 0), .slot 10 (lpVP p5 0), .slot 22 (intVP .i64 x13), .res (lb p1 24 [bytesCk 32 a_1]), .res (lb p2 24 [bytesCk 32 (List.replicate 32 0)]), .res (lb p5 77 [arrCk 64 32 (dC 32) (lens_dC 32) ((x15.set (IntKind.wrap .i64 ((IntKind.wrap .i64 (2 * x13)) + r27)).toNat r29.1).set (IntKind.wrap .i64 ((IntKind.wrap .i64 ((IntKind.wrap .i64 (2 * x13)) + 1)) - r27)).toNat (a_3.getD x13.toNat default))]), .res (Log_e p_0 r29.2)] a w at h
          clear β
          show Code.wp Tryd.prog _ _ a w
          refine region_do (n := 53) [.slot 49 100000 100000 (fun _ _ => (intVP .i64 (IntKind.wrap .i64 (x13 + 1)))),
      .slot 22 100000 100000 (fun _ _ => (intVP .i64 (IntKind.wrap .i64 (x13 + 1))))] [0, 1] [⟨[6], [], [11], [], some 49⟩, ⟨[11], [6], [12], [0], some 22⟩] [0, 1, 2, 3, 4, 5, 12, 7, 8, 9, 10] mixed hn hG h (by kernel_rfl) ?_ ?_
          · exact ⟨⟨rfl, fun β => (GOk.plain (op_bin bin_add (opt 0 rfl) (opc (ic (by decide)))) rfl)⟩, ⟨rfl, fun β => (GOk.drop _ (GOk.plain (op_move (opt 0 rfl)) rfl))⟩, trivial⟩
          clear h
          intro β a w h
          change SatL c [.slot 0 (eqVP p_0), .slot 2 (slVP (dC 32) a_2), .slot 3 (slVP (dC 32) a_3), .slot 5 (lpVP p1 0), .slot 8 (lpVP p2 0), .slot 10 (lpVP p5 0), .slot 22 (intVP .i64 (IntKind.wrap .i64 (x13 + 1))), .res (lb p1 24 [bytesCk 32 a_1]), .res (lb p2 24 [bytesCk 32 (List.replicate 32 0)]), .res (lb p5 77 [arrCk 64 32 (dC 32) (lens_dC 32) ((x15.set (IntKind.wrap .i64 ((IntKind.wrap .i64 (2 * x13)) + r27)).toNat r29.1).set (IntKind.wrap .i64 ((IntKind.wrap .i64 ((IntKind.wrap .i64 (2 * x13)) + 1)) - r27)).toNat (a_3.getD x13.toNat default))]), .res (Log_e p_0 r29.2)] a w at h
          clear β
          obtain rfl := Option.some.inj hF
          exact ⟨rfl, h.sub [0, 1, 2, 3, 4, 5, 6, 10, 7, 8, 9] (by rfl)⟩
        · replace hF := ff_of hb26 hF
          replace h := h.sub [0, 1, 2, 3, 4, 5, 6, 8, 9, 10, 11] (by rfl)
          change SatL c [.slot 0 (eqVP p_0), .slot 2 (slVP (dC 32) a_2), .slot 3 (slVP (dC 32) a_3), .slot 5 (lpVP p1 0), .slot 8 (lpVP p2 0), .slot 10 (lpVP p5 0), .slot 22 (intVP .i64 x13), .res (Log_e p_0 x14), .res (lb p1 24 [bytesCk 32 a_1]), .res (lb p2 24 [bytesCk 32 (List.replicate 32 0)]), .res (lb p5 77 [arrCk 64 32 (dC 32) (lens_dC 32) x15])] a w at h
          refine wp_exit ?_
          obtain rfl := Option.some.inj hF
          exact ⟨exit_ne _, rfl, h.sub [0, 4, 5, 7, 9, 10] (by rfl)⟩
      · clear hl34
        intro e a w hq
        cases cr33 with
        | ret r35 =>
          obtain ⟨rfl, hq⟩ := hq
          obtain rfl := Option.some.inj hF
          exact ⟨.inl rfl, hq⟩
        | next s36 =>
          obtain ⟨y37, y38, y39⟩ := s36
          obtain ⟨rfl, h⟩ := hq
          change SatL c [.slot 0 (eqVP p_0), .slot 8 (lpVP p2 0), .slot 10 (lpVP p5 0), .res (Log_e p_0 y38), .res (lb p2 24 [bytesCk 32 (List.replicate 32 0)]), .res (lb p5 77 [arrCk 64 32 (dC 32) (lens_dC 32) y39])] a w at h
          refine inBlock_at ?_
          show Code.wp Tryd.prog _ _ a w
          refine wp_seq ?_
          obtain ⟨r40, hr40, hF⟩ := bind_some hF
          refine region_do (n := 53) [.slot 50 100000 100000 (fun _ _ => (eqVP p_0)),
      .slot 51 100000 100000 (fun _ _ => (aggVP [arrCk 64 32 (dC 32) (lens_dC 32) y39])),
      .slot 52 100000 100000 (fun _ _ => (aggVP [bytesCk 32 r40.1])),
      .res 100000 100000 (fun _ _ => (Log_e p_0 r40.2)),
      .res 100000 100000 (fun _ _ => (lb p2 24 [bytesCk 32 r40.1])),
      .slot 9 100000 100000 (fun _ _ => (boolVP true))] [0, 1, 2, 2, 3, 4] [⟨[0], [], [6], [], some 50⟩, ⟨[2, 5], [], [7], [0], some 51⟩, ⟨[6, 7], [3], [8, 9], [0, 1], some 52⟩, ⟨[1, 8], [4], [10], [0, 1, 2], none⟩, ⟨[], [], [11], [0, 1, 2, 3], some 9⟩] [1, 11, 10, 9] mixed hn hG h (by kernel_rfl) ?_ ?_
          · exact ⟨⟨rfl, fun β => (GOk.plain (op_move (opt 0 rfl)) rfl)⟩, ⟨rfl, fun β => (GOk.plain (op_load_lb [] [arrCk 64 32 (dC 32) (lens_dC 32) y39] [] 1 Tryd.isAgg77 Tryd.sizeOf77 (opt 0 rfl) rfl rfl rfl) rfl)⟩, ⟨rfl, fun β => (GOk.plain (op_call Tryd.call46 (lamport_pair_ok hr40) ⟨(opt 0 rfl), (opt 1 rfl), trivial⟩) rfl)⟩, ⟨rfl, fun β => (GOk.plain (op_store_lb [] [bytesCk 32 (List.replicate 32 0)] [] [bytesCk 32 r40.1] Tryd.sizeOf24 (opt 0 rfl) (opt 1 rfl) (cells_agg _) rfl rfl rfl) rfl)⟩, ⟨rfl, fun β => (GOk.plain (op_assign (opc (bc _))) rfl)⟩, trivial⟩
          clear h
          intro β a w h
          change SatL c [.slot 8 (lpVP p2 0), .slot 9 (boolVP true), .res (lb p2 24 [bytesCk 32 r40.1]), .res (Log_e p_0 r40.2)] a w at h
          clear β
          show Code.wp Tryd.prog _ _ a w
          refine wp_ret ?_
          obtain rfl := Option.some.inj hF
          exact ⟨.inl rfl, retn h (rs := [.cell 8 24, .tmp 9]) (Vs := [(aggVP [bytesCk 32 r40.1]), (boolVP true)]) Tryd.results26 (by decide) ⟨(r_cell 0 2 rfl rfl Tryd.isAgg24 Tryd.sizeOf24 rfl), (r_tmp 1 rfl), trivial⟩ [3] [(Log_e p_0 r40.2)] rfl rfl rfl⟩

def law05_awake.j1 (x8 : Bool) (x9 : Option O_Log) : Option Bool := some x8
def law05_awake : Option Bool := ((lamport_Sign none ([u8of 128] ++ List.replicate (32 - 1) 0) 1 ([u8of 128] ++ List.replicate (32 - 1) 0)).bind fun r2 => ((lamport_Opened r2.2.2 ([u8of 128] ++ List.replicate (32 - 1) 0) r2.1 r2.2.1).bind fun r4 => ((lamport_Bit ([u8of 128] ++ List.replicate (32 - 1) 0) 0).bind fun r6 => (if (decide (r6 = (1 : Int))) = true then (if r4.2.1 = true then ((lamport_Word r4.2.2 ([u8of 128] ++ List.replicate (32 - 1) 0) 1).bind fun r7 => law05_awake.j1 (decide (r4.1 = r7.1)) r7.2) else law05_awake.j1 false r4.2.2) else law05_awake.j1 false r4.2.2))))
theorem law05_awake_ok {r : Bool} (hF : law05_awake = some r) : CallOk Tryd.prog KG 24 [] [] (fun _ => []) (boolVP r) := by
  refine CallOk.intro 32 Tryd.func24 rfl Tryd.ntmps24 (Nat.le_of_ble_eq_true rfl) ?_
  intro c a w hG hn h
  unfold law05_awake at hF
  change SatL c [] a w at h
  refine wp_seq ?_
  refine region_do (n := 32) [.slot 0 100000 100000 (fun _ _ => (boolVP false))] [0] [⟨[], [], [0], [], some 0⟩] [] mixed hn hG h (by kernel_rfl) ?_ ?_
  · exact ⟨⟨rfl, fun β => (GOk.plain (op_assign (opc (bc _))) rfl)⟩, trivial⟩
  clear h
  intro β a w h
  change SatL c [] a w at h
  clear β
  show Code.wp Tryd.prog _ _ a w
  refine wp_seq ?_
  refine region_do (n := 32) [.slot 6 100000 100000 (fun _ _ => (aggVP [bytesCk 32 ([u8of 128] ++ List.replicate (32 - 1) 0)])),
      .slot 1 1 100000 (fun v1_ _ => (lpVP v1_ 0)),
      .res 1 100000 (fun v1_ _ => (lb (v1_) 24 [bytesCk 32 (List.replicate 32 0)])),
      .res 1 100000 (fun v1_ _ => (lb (v1_) 24 [bytesCk 32 ([u8of 128] ++ List.replicate (32 - 1) 0)]))] [0, 1, 1, 2] [⟨[], [], [0], [], some 6⟩, ⟨[], [], [1, 2], [0], some 1⟩, ⟨[1, 0], [2], [3], [0, 1], none⟩] [1, 3] mixed hn hG h (by kernel_rfl) ?_ ?_
  · exact ⟨⟨rfl, fun β => (GOk.plain (op_buildB (xs := [.const (.int .u8 128)]) (ys := [u8of 128]) rfl bu24 ⟨⟨_, (opc (ic (by decide))), (cells_u8 _)⟩, trivial⟩ (by decide) rfl) rfl)⟩, ⟨rfl, fun β => (GOk.plain (op_alloc Tryd.zeroValue24 z24) rfl)⟩, ⟨rfl, fun β => (GOk.plain (op_store_lb [] [bytesCk 32 (List.replicate 32 0)] [] [bytesCk 32 ([u8of 128] ++ List.replicate (32 - 1) 0)] Tryd.sizeOf24 (opt 0 rfl) (opt 1 rfl) (cells_agg _) rfl rfl rfl) rfl)⟩, trivial⟩
  clear h
  intro β a w h
  change SatL c [.slot 1 (lpVP (β 1) 0), .res (lb (β 1) 24 [bytesCk 32 ([u8of 128] ++ List.replicate (32 - 1) 0)])] a w at h
  generalize β 1 = p1 at h
  clear β
  show Code.wp Tryd.prog _ _ a w
  refine wp_seq ?_
  replace h := h.snoc Log_nil
  replace h := h.sub [0, 1, 2] (by rfl)
  change SatL c [.slot 1 (lpVP p1 0), .res (lb p1 24 [bytesCk 32 ([u8of 128] ++ List.replicate (32 - 1) 0)]), .res (Log_e (.pointer none) none)] a w at h
  obtain ⟨r2, hr2, hF⟩ := bind_some hF
  refine region_do (n := 32) [.slot 8 100000 100000 (fun _ _ => (aggVP [bytesCk 32 ([u8of 128] ++ List.replicate (32 - 1) 0)])),
      .slot 9 100000 100000 (fun _ _ => (aggVP [bytesCk 32 ([u8of 128] ++ List.replicate (32 - 1) 0)])),
      .slot 10 2 100000 (fun v1_ _ => (eqVP v1_)),
      .res 2 100000 (fun v1_ _ => (own (tupAt 0 v1_) 24 32 (dC 32) r2.1)),
      .res 2 100000 (fun v1_ _ => (own (tupAt 1 v1_) 24 32 (dC 32) r2.2.1)),
      .res 100000 100000 (fun _ _ => (Log_e (.pointer none) r2.2.2)),
      .slot 7 2 100000 (fun v1_ _ => (eqVP v1_)),
      .slot 11 2 100000 (fun v1_ _ => (eqVP (tupAt 0 v1_))),
      .slot 12 2 100000 (fun v1_ _ => (eqVP (tupAt 1 v1_))),
      .slot 2 2 100000 (fun v1_ _ => (eqVP (tupAt 0 v1_))),
      .slot 3 2 100000 (fun v1_ _ => (eqVP (tupAt 1 v1_)))] [0, 1, 2, 2, 2, 2, 3, 4, 5, 6, 7] [⟨[0, 1], [], [3], [], some 8⟩, ⟨[0, 1], [], [4], [0], some 9⟩, ⟨[3, 4], [2], [5, 6, 7, 8], [0, 1], some 10⟩, ⟨[5], [], [9], [0, 1, 2], some 7⟩, ⟨[9, 6], [], [10], [0, 1, 2, 3], some 11⟩, ⟨[9, 7], [], [11], [0, 1, 2, 3, 4], some 12⟩, ⟨[10], [], [12], [0, 1, 2, 3, 4, 5], some 2⟩, ⟨[11], [], [13], [0, 1, 2, 3, 4, 5, 6], some 3⟩] [0, 12, 13, 1, 6, 7, 8] mixed hn hG h (by kernel_rfl) ?_ ?_
  · exact ⟨⟨rfl, fun β => (GOk.plain (op_load_lb [] [bytesCk 32 ([u8of 128] ++ List.replicate (32 - 1) 0)] [] 1 Tryd.isAgg24 Tryd.sizeOf24 (opt 0 rfl) rfl rfl rfl) rfl)⟩, ⟨rfl, fun β => (GOk.plain (op_load_lb [] [bytesCk 32 ([u8of 128] ++ List.replicate (32 - 1) 0)] [] 1 Tryd.isAgg24 Tryd.sizeOf24 (opt 0 rfl) rfl rfl rfl) rfl)⟩, ⟨rfl, fun β => (GOk.plain (op_callv Tryd.call25 (lamport_Sign_ok hr2) ⟨(opc (ec _)), (opt 0 rfl), (opc (ic (by decide))), (opt 1 rfl), trivial⟩) rfl)⟩, ⟨rfl, fun β => (GOk.plain (op_move (V := (eqVP (β 2))) (opt 0 rfl)) rfl)⟩, ⟨rfl, fun β => (GOk.plain (op_extract_own 0 1 rfl rfl) rfl)⟩, ⟨rfl, fun β => (GOk.plain (op_extract_own 0 1 rfl rfl) rfl)⟩, ⟨rfl, fun β => (GOk.plain (op_assign (V := (eqVP (tupAt 0 (β 2)))) (opt 0 rfl)) rfl)⟩, ⟨rfl, fun β => (GOk.plain (op_assign (V := (eqVP (tupAt 1 (β 2)))) (opt 0 rfl)) rfl)⟩, trivial⟩
  clear h
  intro β a w h
  change SatL c [.slot 1 (lpVP p1 0), .slot 2 (eqVP (tupAt 0 (β 2))), .slot 3 (eqVP (tupAt 1 (β 2))), .res (lb p1 24 [bytesCk 32 ([u8of 128] ++ List.replicate (32 - 1) 0)]), .res (own (tupAt 0 (β 2)) 24 32 (dC 32) r2.1), .res (own (tupAt 1 (β 2)) 24 32 (dC 32) r2.2.1), .res (Log_e (.pointer none) r2.2.2)] a w at h
  generalize β 2 = p3 at h
  clear β
  show Code.wp Tryd.prog _ _ a w
  refine wp_seq ?_
  replace h := h.ownacc 4 rfl
  change SatL c [.slot 1 (lpVP p1 0), .slot 2 (eqVP (tupAt 0 p3)), .slot 3 (eqVP (tupAt 1 p3)), .res (lb p1 24 [bytesCk 32 ([u8of 128] ++ List.replicate (32 - 1) 0)]), .res (acc (tupAt 0 p3) 24 32 (dC 32) r2.1), .res (own (tupAt 1 p3) 24 32 (dC 32) r2.2.1), .res (Log_e (.pointer none) r2.2.2)] a w at h
  replace h := h.ownacc 5 rfl
  change SatL c [.slot 1 (lpVP p1 0), .slot 2 (eqVP (tupAt 0 p3)), .slot 3 (eqVP (tupAt 1 p3)), .res (lb p1 24 [bytesCk 32 ([u8of 128] ++ List.replicate (32 - 1) 0)]), .res (acc (tupAt 0 p3) 24 32 (dC 32) r2.1), .res (acc (tupAt 1 p3) 24 32 (dC 32) r2.2.1), .res (Log_e (.pointer none) r2.2.2)] a w at h
  obtain ⟨r4, hr4, hF⟩ := bind_some hF
  refine region_do (n := 32) [.slot 14 100000 100000 (fun _ _ => (aggVP [bytesCk 32 ([u8of 128] ++ List.replicate (32 - 1) 0)])),
      .slot 15 100000 100000 (fun _ _ => (eqVP (tupAt 0 p3))),
      .slot 16 100000 100000 (fun _ _ => (eqVP (tupAt 1 p3))),
      .slot 17 100000 100000 (fun _ _ => (tupVP [(aggVP [bytesCk 32 r4.1]), (boolVP r4.2.1)])),
      .res 100000 100000 (fun _ _ => (Log_e (.pointer none) r4.2.2)),
      .slot 13 100000 100000 (fun _ _ => (tupVP [(aggVP [bytesCk 32 r4.1]), (boolVP r4.2.1)])),
      .slot 18 100000 100000 (fun _ _ => (aggVP [bytesCk 32 r4.1])),
      .slot 19 100000 100000 (fun _ _ => (boolVP r4.2.1)),
      .slot 4 7 100000 (fun v1_ _ => (lpVP v1_ 0)),
      .res 7 100000 (fun v1_ _ => (lb (v1_) 24 [bytesCk 32 (List.replicate 32 0)])),
      .res 7 100000 (fun v1_ _ => (lb (v1_) 24 [bytesCk 32 r4.1])),
      .slot 5 100000 100000 (fun _ _ => (boolVP r4.2.1))] [0, 1, 2, 3, 3, 4, 5, 6, 7, 7, 8, 9] [⟨[0, 3], [], [7], [], some 14⟩, ⟨[1], [], [8], [0], some 15⟩, ⟨[2], [], [9], [0, 1], some 16⟩, ⟨[7, 8, 4, 9, 5], [6], [10, 11], [0, 1, 2], some 17⟩, ⟨[10], [], [12], [0, 1, 2, 3], some 13⟩, ⟨[12], [], [13], [0, 1, 2, 3, 4], some 18⟩, ⟨[12], [], [14], [0, 1, 2, 3, 4, 5], some 19⟩, ⟨[], [], [15, 16], [0, 1, 2, 3, 4, 5, 6], some 4⟩, ⟨[15, 13], [16], [17], [0, 1, 2, 3, 4, 5, 6, 7], none⟩, ⟨[14], [], [18], [0, 1, 2, 3, 4, 5, 6, 7, 8], some 5⟩] [0, 15, 18, 3, 11, 17] mixed hn hG h (by kernel_rfl) ?_ ?_
  · exact ⟨⟨rfl, fun β => (GOk.plain (op_load_lb [] [bytesCk 32 ([u8of 128] ++ List.replicate (32 - 1) 0)] [] 1 Tryd.isAgg24 Tryd.sizeOf24 (opt 0 rfl) rfl rfl rfl) rfl)⟩, ⟨rfl, fun β => (GOk.plain (op_move (opt 0 rfl)) rfl)⟩, ⟨rfl, fun β => (GOk.plain (op_move (opt 0 rfl)) rfl)⟩, ⟨rfl, fun β => (GOk.plain (op_call Tryd.call26 (lamport_Opened_ok hr4) ⟨(opc (ec _)), (opt 0 rfl), (opacc 1 2 rfl rfl), (opacc 3 4 rfl rfl), trivial⟩) rfl)⟩, ⟨rfl, fun β => (GOk.plain (op_move (opt 0 rfl)) rfl)⟩, ⟨rfl, fun β => (GOk.plain (op_extract (opt 0 rfl) rfl) rfl)⟩, ⟨rfl, fun β => (GOk.plain (op_extract (opt 0 rfl) rfl) rfl)⟩, ⟨rfl, fun β => (GOk.plain (op_alloc Tryd.zeroValue24 z24) rfl)⟩, ⟨rfl, fun β => (GOk.plain (op_store_lb [] [bytesCk 32 (List.replicate 32 0)] [] [bytesCk 32 r4.1] Tryd.sizeOf24 (opt 0 rfl) (opt 1 rfl) (cells_agg _) rfl rfl rfl) rfl)⟩, ⟨rfl, fun β => (GOk.plain (op_assign (opt 0 rfl)) rfl)⟩, trivial⟩
  clear h
  intro β a w h
  change SatL c [.slot 1 (lpVP p1 0), .slot 4 (lpVP (β 7) 0), .slot 5 (boolVP r4.2.1), .res (lb p1 24 [bytesCk 32 ([u8of 128] ++ List.replicate (32 - 1) 0)]), .res (Log_e (.pointer none) r4.2.2), .res (lb (β 7) 24 [bytesCk 32 r4.1])] a w at h
  generalize β 7 = p5 at h
  clear β
  show Code.wp Tryd.prog _ _ a w
  refine wp_seq ?_
  obtain ⟨r6, hr6, hF⟩ := bind_some hF
  refine wp_cut (fun a w => ∃ (x8 : Bool), ∃ (x9 : Option O_Log), law05_awake.j1 x8 x9 = some r ∧ SatL c [.slot 0 (boolVP x8), .res (Log_e (.pointer none) x9)] a w) ?_ ?_
  · rcases Bool.eq_false_or_eq_true (decide (r6 = (1 : Int))) with hb10 | hb10
    · replace hF := tt_of hb10 hF
      rcases Bool.eq_false_or_eq_true r4.2.1 with hb11 | hb11
      · replace hF := tt_of hb11 hF
        obtain ⟨r7, hr7, hF⟩ := bind_some hF
        refine region_do (n := 32) [.slot 20 100000 100000 (fun _ _ => (aggVP [bytesCk 32 ([u8of 128] ++ List.replicate (32 - 1) 0)])),
      .slot 21 100000 100000 (fun _ _ => (intVP .i64 r6)),
      .slot 22 100000 100000 (fun _ _ => (boolVP (decide (r6 = (1 : Int))))),
      .slot 23 100000 100000 (fun _ _ => (boolVP (decide (r6 = (1 : Int))))),
      .slot 24 100000 100000 (fun _ _ => (boolVP r4.2.1)),
      .slot 25 100000 100000 (fun _ _ => (boolVP r4.2.1)),
      .slot 26 100000 100000 (fun _ _ => (boolVP r4.2.1)),
      .slot 27 100000 100000 (fun _ _ => (aggVP [bytesCk 32 r4.1])),
      .slot 28 100000 100000 (fun _ _ => (aggVP [bytesCk 32 ([u8of 128] ++ List.replicate (32 - 1) 0)])),
      .slot 29 100000 100000 (fun _ _ => (aggVP [bytesCk 32 r7.1])),
      .res 100000 100000 (fun _ _ => (Log_e (.pointer none) r7.2)),
      .slot 30 100000 100000 (fun _ _ => (boolVP (decide (r4.1 = r7.1)))),
      .slot 31 100000 100000 (fun _ _ => (boolVP (decide (r4.1 = r7.1)))),
      .slot 0 100000 100000 (fun _ _ => (boolVP (decide (r4.1 = r7.1))))] [0, 1, 2, 3, 4, 5, 6, 7, 8, 9, 9, 10, 11, 12] [⟨[0, 3], [], [6], [], some 20⟩, ⟨[6], [], [7], [0], some 21⟩, ⟨[7], [], [8], [0, 1], some 22⟩, ⟨[8], [], [9], [0, 1, 2], some 23⟩, ⟨[9, 2], [], [10], [0, 1, 2, 3], some 24⟩, ⟨[9, 10], [], [11], [0, 1, 2, 3, 4], some 25⟩, ⟨[11], [], [12], [0, 1, 2, 3, 4, 5], some 26⟩, ⟨[12, 1, 5], [], [13], [0, 1, 2, 3, 4, 5, 6], some 27⟩, ⟨[12, 0, 3], [], [14], [0, 1, 2, 3, 4, 5, 6], some 28⟩, ⟨[12, 14], [4], [15, 16], [0, 1, 2, 3, 4, 5, 6, 8], some 29⟩, ⟨[12, 13, 15], [], [17], [0, 1, 2, 3, 4, 5, 6, 7, 8, 9], some 30⟩, ⟨[12, 17], [], [18], [0, 1, 2, 3, 4, 5, 6, 7, 8, 9, 10], some 31⟩, ⟨[18], [], [19], [0, 1, 2, 3, 4, 5, 6, 7, 8, 9, 10, 11], some 0⟩] [19, 16] mixed hn hG h (by kernel_rfl) ?_ ?_
        · exact ⟨⟨rfl, fun β => (GOk.plain (op_load_lb [] [bytesCk 32 ([u8of 128] ++ List.replicate (32 - 1) 0)] [] 1 Tryd.isAgg24 Tryd.sizeOf24 (opt 0 rfl) rfl rfl rfl) rfl)⟩, ⟨rfl, fun β => (GOk.plain (op_call Tryd.call29 (lamport_Bit_ok hr6) ⟨(opt 0 rfl), (opc (ic (by decide))), trivial⟩) rfl)⟩, ⟨rfl, fun β => (GOk.plain (op_bin bin_eql (opt 0 rfl) (opc (ic (by decide)))) rfl)⟩, ⟨rfl, fun β => (GOk.plain (op_move (opt 0 rfl)) rfl)⟩, ⟨rfl, fun β => (GOk.on_eq hb10 rfl rfl rfl (op_move (opt 0 rfl)))⟩, ⟨rfl, fun β => (GOk.plain (op_pick_t hb10 (opt 0 rfl) (opt 1 rfl)) rfl)⟩, ⟨rfl, fun β => (GOk.plain (op_move (opt 0 rfl)) rfl)⟩, ⟨rfl, fun β => (GOk.on_eq hb11 rfl rfl rfl (op_load_lb [] [bytesCk 32 r4.1] [] 1 Tryd.isAgg24 Tryd.sizeOf24 (opt 0 rfl) rfl rfl rfl))⟩, ⟨rfl, fun β => (GOk.on_eq hb11 rfl rfl rfl (op_load_lb [] [bytesCk 32 ([u8of 128] ++ List.replicate (32 - 1) 0)] [] 1 Tryd.isAgg24 Tryd.sizeOf24 (opt 0 rfl) rfl rfl rfl))⟩, ⟨rfl, fun β => (GOk.on_eq hb11 rfl rfl rfl (op_call Tryd.call27 (lamport_Word_ok hr7) ⟨(opc (ec _)), (opt 0 rfl), (opc (ic (by decide))), trivial⟩))⟩, ⟨rfl, fun β => (GOk.on_eq hb11 rfl rfl rfl (op_bin (bin_aeql Tryd.underlying24 Tryd.underlying5 Tryd.type5 Tryd.sizeOf5 Tryd.isAgg5 Tryd.eqGuardType24) (opt 0 rfl) (opt 1 rfl)))⟩, ⟨rfl, fun β => (GOk.plain (op_pick_t hb11 (opt 0 rfl) (opt 1 rfl)) rfl)⟩, ⟨rfl, fun β => (GOk.plain (op_assign (opt 0 rfl)) rfl)⟩, trivial⟩
        clear h
        intro β a w h
        change SatL c [.slot 0 (boolVP (decide (r4.1 = r7.1))), .res (Log_e (.pointer none) r7.2)] a w at h
        clear β
        exact ⟨decide (r4.1 = r7.1), r7.2, hF, h.sub [0, 1] (by rfl)⟩
      · replace hF := ff_of hb11 hF
        refine region_do (n := 32) [.slot 20 100000 100000 (fun _ _ => (aggVP [bytesCk 32 ([u8of 128] ++ List.replicate (32 - 1) 0)])),
      .slot 21 100000 100000 (fun _ _ => (intVP .i64 r6)),
      .slot 22 100000 100000 (fun _ _ => (boolVP (decide (r6 = (1 : Int))))),
      .slot 23 100000 100000 (fun _ _ => (boolVP (decide (r6 = (1 : Int))))),
      .slot 24 100000 100000 (fun _ _ => (boolVP r4.2.1)),
      .slot 25 100000 100000 (fun _ _ => (boolVP r4.2.1)),
      .slot 26 100000 100000 (fun _ _ => (boolVP r4.2.1)),
      .slot 27 100000 100000 (fun _ _ => (eqVP undef)),
      .slot 28 100000 100000 (fun _ _ => (eqVP undef)),
      .slot 29 100000 100000 (fun _ _ => (eqVP undef)),
      .slot 30 100000 100000 (fun _ _ => (eqVP undef)),
      .slot 31 100000 100000 (fun _ _ => (boolVP false)),
      .slot 0 100000 100000 (fun _ _ => (boolVP false))] [0, 1, 2, 3, 4, 5, 6, 7, 8, 9, 10, 11, 12] [⟨[0, 3], [], [6], [], some 20⟩, ⟨[6], [], [7], [0], some 21⟩, ⟨[7], [], [8], [0, 1], some 22⟩, ⟨[8], [], [9], [0, 1, 2], some 23⟩, ⟨[9, 2], [], [10], [0, 1, 2, 3], some 24⟩, ⟨[9, 10], [], [11], [0, 1, 2, 3, 4], some 25⟩, ⟨[11], [], [12], [0, 1, 2, 3, 4, 5], some 26⟩, ⟨[12], [], [13], [0, 1, 2, 3, 4, 5, 6], some 27⟩, ⟨[12], [], [14], [0, 1, 2, 3, 4, 5, 6], some 28⟩, ⟨[12], [], [15], [0, 1, 2, 3, 4, 5, 6, 8], some 29⟩, ⟨[12], [], [16], [0, 1, 2, 3, 4, 5, 6, 7, 8, 9], some 30⟩, ⟨[12], [], [17], [0, 1, 2, 3, 4, 5, 6, 7, 8, 9, 10], some 31⟩, ⟨[17], [], [18], [0, 1, 2, 3, 4, 5, 6, 7, 8, 9, 10, 11], some 0⟩] [18, 4] mixed hn hG h (by kernel_rfl) ?_ ?_
        · exact ⟨⟨rfl, fun β => (GOk.plain (op_load_lb [] [bytesCk 32 ([u8of 128] ++ List.replicate (32 - 1) 0)] [] 1 Tryd.isAgg24 Tryd.sizeOf24 (opt 0 rfl) rfl rfl rfl) rfl)⟩, ⟨rfl, fun β => (GOk.plain (op_call Tryd.call29 (lamport_Bit_ok hr6) ⟨(opt 0 rfl), (opc (ic (by decide))), trivial⟩) rfl)⟩, ⟨rfl, fun β => (GOk.plain (op_bin bin_eql (opt 0 rfl) (opc (ic (by decide)))) rfl)⟩, ⟨rfl, fun β => (GOk.plain (op_move (opt 0 rfl)) rfl)⟩, ⟨rfl, fun β => (GOk.on_eq hb10 rfl rfl rfl (op_move (opt 0 rfl)))⟩, ⟨rfl, fun β => (GOk.plain (op_pick_t hb10 (opt 0 rfl) (opt 1 rfl)) rfl)⟩, ⟨rfl, fun β => (GOk.plain (op_move (opt 0 rfl)) rfl)⟩, ⟨rfl, fun β => (GOk.off_v (want := true) hb11 rfl rfl rfl rfl)⟩, ⟨rfl, fun β => (GOk.off_v (want := true) hb11 rfl rfl rfl rfl)⟩, ⟨rfl, fun β => (GOk.off_v (want := true) hb11 rfl rfl rfl rfl)⟩, ⟨rfl, fun β => (GOk.off_v (want := true) hb11 rfl rfl rfl rfl)⟩, ⟨rfl, fun β => (GOk.plain (op_pick_f hb11 (opt 0 rfl) (opc (bc _))) rfl)⟩, ⟨rfl, fun β => (GOk.plain (op_assign (opt 0 rfl)) rfl)⟩, trivial⟩
        clear h
        intro β a w h
        change SatL c [.slot 0 (boolVP false), .res (Log_e (.pointer none) r4.2.2)] a w at h
        clear β
        exact ⟨false, r4.2.2, hF, h.sub [0, 1] (by rfl)⟩
    · replace hF := ff_of hb10 hF
      refine region_do (n := 32) [.slot 20 100000 100000 (fun _ _ => (aggVP [bytesCk 32 ([u8of 128] ++ List.replicate (32 - 1) 0)])),
      .slot 21 100000 100000 (fun _ _ => (intVP .i64 r6)),
      .slot 22 100000 100000 (fun _ _ => (boolVP (decide (r6 = (1 : Int))))),
      .slot 23 100000 100000 (fun _ _ => (boolVP (decide (r6 = (1 : Int))))),
      .slot 24 100000 100000 (fun _ _ => (eqVP undef)),
      .slot 25 100000 100000 (fun _ _ => (boolVP false)),
      .slot 26 100000 100000 (fun _ _ => (boolVP false)),
      .slot 27 100000 100000 (fun _ _ => (eqVP undef)),
      .slot 28 100000 100000 (fun _ _ => (eqVP undef)),
      .slot 29 100000 100000 (fun _ _ => (eqVP undef)),
      .slot 30 100000 100000 (fun _ _ => (eqVP undef)),
      .slot 31 100000 100000 (fun _ _ => (boolVP false)),
      .slot 0 100000 100000 (fun _ _ => (boolVP false))] [0, 1, 2, 3, 4, 5, 6, 7, 8, 9, 10, 11, 12] [⟨[0, 3], [], [6], [], some 20⟩, ⟨[6], [], [7], [0], some 21⟩, ⟨[7], [], [8], [0, 1], some 22⟩, ⟨[8], [], [9], [0, 1, 2], some 23⟩, ⟨[9], [], [10], [0, 1, 2, 3], some 24⟩, ⟨[9], [], [11], [0, 1, 2, 3, 4], some 25⟩, ⟨[11], [], [12], [0, 1, 2, 3, 4, 5], some 26⟩, ⟨[12], [], [13], [0, 1, 2, 3, 4, 5, 6], some 27⟩, ⟨[12], [], [14], [0, 1, 2, 3, 4, 5, 6], some 28⟩, ⟨[12], [], [15], [0, 1, 2, 3, 4, 5, 6, 8], some 29⟩, ⟨[12], [], [16], [0, 1, 2, 3, 4, 5, 6, 7, 8, 9], some 30⟩, ⟨[12], [], [17], [0, 1, 2, 3, 4, 5, 6, 7, 8, 9, 10], some 31⟩, ⟨[17], [], [18], [0, 1, 2, 3, 4, 5, 6, 7, 8, 9, 10, 11], some 0⟩] [18, 4] mixed hn hG h (by kernel_rfl) ?_ ?_
      · exact ⟨⟨rfl, fun β => (GOk.plain (op_load_lb [] [bytesCk 32 ([u8of 128] ++ List.replicate (32 - 1) 0)] [] 1 Tryd.isAgg24 Tryd.sizeOf24 (opt 0 rfl) rfl rfl rfl) rfl)⟩, ⟨rfl, fun β => (GOk.plain (op_call Tryd.call29 (lamport_Bit_ok hr6) ⟨(opt 0 rfl), (opc (ic (by decide))), trivial⟩) rfl)⟩, ⟨rfl, fun β => (GOk.plain (op_bin bin_eql (opt 0 rfl) (opc (ic (by decide)))) rfl)⟩, ⟨rfl, fun β => (GOk.plain (op_move (opt 0 rfl)) rfl)⟩, ⟨rfl, fun β => (GOk.off_v (want := true) hb10 rfl rfl rfl rfl)⟩, ⟨rfl, fun β => (GOk.plain (op_pick_f hb10 (opt 0 rfl) (opc (bc _))) rfl)⟩, ⟨rfl, fun β => (GOk.plain (op_move (opt 0 rfl)) rfl)⟩, ⟨rfl, fun β => (GOk.off_v (want := true) rfl rfl rfl rfl rfl)⟩, ⟨rfl, fun β => (GOk.off_v (want := true) rfl rfl rfl rfl rfl)⟩, ⟨rfl, fun β => (GOk.off_v (want := true) rfl rfl rfl rfl rfl)⟩, ⟨rfl, fun β => (GOk.off_v (want := true) rfl rfl rfl rfl rfl)⟩, ⟨rfl, fun β => (GOk.plain (op_pick_f rfl (opt 0 rfl) (opc (bc _))) rfl)⟩, ⟨rfl, fun β => (GOk.plain (op_assign (opt 0 rfl)) rfl)⟩, trivial⟩
      clear h
      intro β a w h
      change SatL c [.slot 0 (boolVP false), .res (Log_e (.pointer none) r4.2.2)] a w at h
      clear β
      exact ⟨false, r4.2.2, hF, h.sub [0, 1] (by rfl)⟩
  · clear h hF
    rintro a w ⟨x8, x9, hF, h⟩
    unfold law05_awake.j1 at hF
    show Code.wp Tryd.prog _ _ a w
    refine wp_ret ?_
    obtain rfl := Option.some.inj hF
    exact ⟨.inl rfl, ret1 h Tryd.results24 (r_tmp 0 rfl) [] [] rfl rfl rfl⟩

def ref03_Bytes (a_0 : List UInt8) : Option (List UInt8) := some (a_0.take ((32 : Int).toNat - (0 : Int).toNat))
theorem ref03_Bytes_ok {a_0 : List UInt8} {r : (List UInt8)} (hF : ref03_Bytes a_0 = some r) : CallOk Tryd.prog KG 42 [(aggVP [bytesCk 32 a_0])] [] (fun _ => []) (strVP r) := by
  refine CallOk.intro 5 Tryd.func42 rfl Tryd.ntmps42 (Nat.le_of_ble_eq_true rfl) ?_
  intro c a w hG hn h
  unfold ref03_Bytes at hF
  change SatL c [.slot 0 (aggVP [bytesCk 32 a_0])] a w at h
  refine wp_seq ?_
  refine region_do (n := 5) [.slot 1 0 100000 (fun v1_ _ => (lpVP v1_ 0)),
      .res 0 100000 (fun v1_ _ => (lb (v1_) 24 [bytesCk 32 a_0])),
      .slot 2 100000 100000 (fun _ _ => (strVP []))] [0, 0, 1] [⟨[0], [], [1, 2], [], some 1⟩, ⟨[], [], [3], [0], some 2⟩] [1, 2] mixed hn hG h (by kernel_rfl) ?_ ?_
  · exact ⟨⟨rfl, fun β => (GOk.plain (op_box (opt 0 rfl) (cells_agg _)) rfl)⟩, ⟨rfl, fun β => (GOk.plain (op_assign (opc (sc _ (by decide)))) rfl)⟩, trivial⟩
  clear h
  intro β a w h
  change SatL c [.slot 1 (lpVP (β 0) 0), .res (lb (β 0) 24 [bytesCk 32 a_0])] a w at h
  generalize β 0 = p1 at h
  clear β
  show Code.wp Tryd.prog _ _ a w
  refine wp_seq ?_
  refine region_do (n := 5) [.slot 3 100000 100000 (fun _ _ => (lslVP p1 (0 + (0 : Int).toNat * 1) ((32 : Int).toNat - (0 : Int).toNat) (32 - (0 : Int).toNat))),
      .slot 4 100000 100000 (fun _ _ => (strVP (a_0.take ((32 : Int).toNat - (0 : Int).toNat)))),
      .slot 2 100000 100000 (fun _ _ => (strVP (a_0.take ((32 : Int).toNat - (0 : Int).toNat))))] [0, 1, 2] [⟨[0], [], [2], [], some 3⟩, ⟨[2, 1], [], [3], [0], some 4⟩, ⟨[3], [], [4], [0, 1], some 2⟩] [4] mixed hn hG h (by kernel_rfl) ?_ ?_
  · exact ⟨⟨rfl, fun β => (GOk.plain (op_slice_lb (a := 0) (b := 32) Tryd.underlying24 Tryd.sizeOf5 (opt 0 rfl) rfl rfl (by decide)) rfl)⟩, ⟨rfl, fun β => (GOk.plain (op_str_lsl [] [] 1 Tryd.underlying79 Tryd.underlying5 Tryd.underlying9 (opt 0 rfl) rfl rfl (by decide) (by decide)) rfl)⟩, ⟨rfl, fun β => (GOk.plain (op_assign (opt 0 rfl)) rfl)⟩, trivial⟩
  clear h
  intro β a w h
  change SatL c [.slot 2 (strVP (a_0.take ((32 : Int).toNat - (0 : Int).toNat)))] a w at h
  clear β
  show Code.wp Tryd.prog _ _ a w
  refine wp_ret ?_
  obtain rfl := Option.some.inj hF
  exact ⟨.inl rfl, ret1 h Tryd.results42 (r_tmp 0 rfl) [] [] rfl rfl rfl⟩

def ref03_Big.b1 (x4 : Int) (x5 : Int) (x6 : List UInt8) : Option (Flow (List UInt8) (Int × Int × (List UInt8))) := (if (decide ((0 : Int) ≤ x5)) = true then (if (0 : Int) ≤ x5 ∧ x5 < 8 then some (.cont (IntKind.wrap .u64 (x4.tdiv 256), IntKind.wrap .i64 (x5 - 1), x6.set x5.toNat (u8of (IntKind.wrap .u8 (x4.tmod 256))))) else none) else some (.brk (x4, x5, x6)))
def ref03_Big (a_0 : Int) (a_1 : Int) : Option (List UInt8) := ((loopN (fun s : Int × Int × (List UInt8) => ref03_Big.b1 s.1 s.2.1 s.2.2) (((IntKind.wrap .i64 (a_1 - 1)) - 0 : Int).toNat + 2) (a_0, IntKind.wrap .i64 (a_1 - 1), (List.replicate 8 0))).bind fun cr => match cr with | .ret r => some r | .next (y18, y19, y20) => (if (0 : Int) ≤ 0 ∧ (0 : Int) ≤ a_1 ∧ a_1 ≤ 8 ∧ (0 : Int) < 8 then (if (a_1 : Int).toNat - (0 : Int).toNat ≤ 8 then some (y20.take ((a_1 : Int).toNat - (0 : Int).toNat)) else none) else none))
theorem ref03_Big_ok {a_0 : Int} {a_1 : Int} {r : (List UInt8)} (hF : ref03_Big a_0 a_1 = some r) : CallOk Tryd.prog KG 49 [(intVP .u64 a_0), (intVP .i64 a_1)] [] (fun _ => []) (strVP r) := by
  refine CallOk.intro 23 Tryd.func49 rfl Tryd.ntmps49 (Nat.le_of_ble_eq_true rfl) ?_
  intro c a w hG hn h
  unfold ref03_Big at hF
  change SatL c [.slot 0 (intVP .u64 a_0), .slot 1 (intVP .i64 a_1)] a w at h
  refine wp_seq ?_
  refine region_do (n := 23) [.slot 4 100000 100000 (fun _ _ => (strVP []))] [0] [⟨[], [], [2], [], some 4⟩] [0, 1] mixed hn hG h (by kernel_rfl) ?_ ?_
  · exact ⟨⟨rfl, fun β => (GOk.plain (op_assign (opc (sc _ (by decide)))) rfl)⟩, trivial⟩
  clear h
  intro β a w h
  change SatL c [.slot 0 (intVP .u64 a_0), .slot 1 (intVP .i64 a_1)] a w at h
  clear β
  show Code.wp Tryd.prog _ _ a w
  refine wp_seq ?_
  refine region_do (n := 23) [.slot 5 0 100000 (fun v1_ _ => (lpVP v1_ 0)),
      .res 0 100000 (fun v1_ _ => (lb (v1_) 106 [bytesCk 8 (List.replicate 8 0)]))] [0, 0] [⟨[], [], [2, 3], [], some 5⟩] [0, 1, 2, 3] mixed hn hG h (by kernel_rfl) ?_ ?_
  · exact ⟨⟨rfl, fun β => (GOk.plain (op_alloc Tryd.zeroValue106 z106) rfl)⟩, trivial⟩
  clear h
  intro β a w h
  change SatL c [.slot 0 (intVP .u64 a_0), .slot 1 (intVP .i64 a_1), .slot 5 (lpVP (β 0) 0), .res (lb (β 0) 106 [bytesCk 8 (List.replicate 8 0)])] a w at h
  generalize β 0 = p1 at h
  clear β
  show Code.wp Tryd.prog _ _ a w
  refine wp_seq ?_
  refine wp_seq ?_
  refine region_do (n := 23) [.slot 7 100000 100000 (fun _ _ => (intVP .i64 a_1)),
      .slot 8 100000 100000 (fun _ _ => (intVP .i64 (IntKind.wrap .i64 (a_1 - 1)))),
      .slot 6 100000 100000 (fun _ _ => (intVP .i64 (IntKind.wrap .i64 (a_1 - 1))))] [0, 1, 2] [⟨[1], [], [4], [], some 7⟩, ⟨[4], [], [5], [0], some 8⟩, ⟨[5], [], [6], [0, 1], some 6⟩] [0, 1, 2, 6, 3] mixed hn hG h (by kernel_rfl) ?_ ?_
  · exact ⟨⟨rfl, fun β => (GOk.plain (op_move (opt 0 rfl)) rfl)⟩, ⟨rfl, fun β => (GOk.plain (op_bin bin_sub (opt 0 rfl) (opc (ic (by decide)))) rfl)⟩, ⟨rfl, fun β => (GOk.plain (op_assign (opt 0 rfl)) rfl)⟩, trivial⟩
  clear h
  intro β a w h
  change SatL c [.slot 0 (intVP .u64 a_0), .slot 1 (intVP .i64 a_1), .slot 5 (lpVP p1 0), .slot 6 (intVP .i64 (IntKind.wrap .i64 (a_1 - 1))), .res (lb p1 106 [bytesCk 8 (List.replicate 8 0)])] a w at h
  clear β
  show Code.wp Tryd.prog _ _ a w
  refine wp_block ?_
  obtain ⟨cr14, hl15, hF⟩ := bind_some hF
  refine wp_mono (wp_loopN (R := (List UInt8)) (S := Int × Int × (List UInt8)) (fun s a w => SatL c [.slot 0 (intVP .u64 s.1), .slot 1 (intVP .i64 a_1), .slot 5 (lpVP p1 0), .slot 6 (intVP .i64 s.2.1), .res (lb p1 106 [bytesCk 8 s.2.2])] a w) (fun res e a w => match res with | .next s => e = .exit 0 ∧ SatL c [.slot 1 (intVP .i64 a_1), .slot 5 (lpVP p1 0), .res (lb p1 106 [bytesCk 8 s.2.2])] a w | .ret r => e = .ret ∧ RetOk Tryd.prog Tryd.f49 c (strVP r) (fun _ => []) a w) ?_ _ (a_0, IntKind.wrap .i64 (a_1 - 1), (List.replicate 8 0)) _ _ _ (h.sub [0, 1, 2, 3, 4] (by rfl)) hl15) ?_
  · clear hl15 hF h
    intro s a w o h hF
    obtain ⟨x4, x5, x6⟩ := s
    change ref03_Big.b1 x4 x5 x6 = some o at hF
    unfold ref03_Big.b1 at hF
    change SatL c [.slot 0 (intVP .u64 x4), .slot 1 (intVP .i64 a_1), .slot 5 (lpVP p1 0), .slot 6 (intVP .i64 x5), .res (lb p1 106 [bytesCk 8 x6])] a w at h
    refine wp_seq ?_
    refine wp_seq ?_
    refine region_do (n := 23) [.slot 9 100000 100000 (fun _ _ => (intVP .i64 x5)),
      .slot 10 100000 100000 (fun _ _ => (boolVP (decide ((0 : Int) ≤ x5))))] [0, 1] [⟨[3], [], [5], [], some 9⟩, ⟨[5], [], [6], [0], some 10⟩] [0, 1, 2, 3, 6, 4] mixed hn hG h (by kernel_rfl) ?_ ?_
    · exact ⟨⟨rfl, fun β => (GOk.plain (op_move (opt 0 rfl)) rfl)⟩, ⟨rfl, fun β => (GOk.plain (op_bin bin_geq (opt 0 rfl) (opc (ic (by decide)))) rfl)⟩, trivial⟩
    clear h
    intro β a w h
    change SatL c [.slot 0 (intVP .u64 x4), .slot 1 (intVP .i64 a_1), .slot 5 (lpVP p1 0), .slot 6 (intVP .i64 x5), .slot 10 (boolVP (decide ((0 : Int) ≤ x5))), .res (lb p1 106 [bytesCk 8 x6])] a w at h
    clear β
    show Code.wp Tryd.prog _ _ a w
    refine cond_L h 4 rfl (fun hb12 => ?_) (fun hb12 => ?_)
    · replace hF := tt_of hb12 hF
      replace h := h.sub [0, 1, 2, 3, 5] (by rfl)
      change SatL c [.slot 0 (intVP .u64 x4), .slot 1 (intVP .i64 a_1), .slot 5 (lpVP p1 0), .slot 6 (intVP .i64 x5), .res (lb p1 106 [bytesCk 8 x6])] a w at h
      refine wp_skip ?_
      show Code.wp Tryd.prog _ _ a w
      refine wp_seq ?_
      refine wp_block ?_
      refine wp_seq ?_
      obtain ⟨hv13, hF⟩ := ite_some hF
      refine region_do (n := 23) [.slot 13 100000 100000 (fun _ _ => (intVP .i64 x5)),
      .slot 14 100000 100000 (fun _ _ => (intVP .u64 x4)),
      .slot 15 100000 100000 (fun _ _ => (intVP .u64 (x4.tmod 256))),
      .slot 16 100000 100000 (fun _ _ => (intVP .u8 (IntKind.wrap .u8 (x4.tmod 256)))),
      .slot 17 100000 100000 (fun _ _ => (lpVP p1 (0 + x5.toNat * 1))),
      .res 100000 100000 (fun _ _ => (lb p1 106 [bytesCk 8 (x6.set x5.toNat (u8of (IntKind.wrap .u8 (x4.tmod 256))))]))] [0, 1, 2, 3, 4, 5] [⟨[3], [], [5], [], some 13⟩, ⟨[0], [], [6], [0], some 14⟩, ⟨[6], [], [7], [0, 1], some 15⟩, ⟨[7], [], [8], [0, 1, 2], some 16⟩, ⟨[2, 5], [], [9], [0, 1, 2, 3], some 17⟩, ⟨[9, 8], [4], [10], [0, 1, 2, 3, 4], none⟩] [0, 1, 2, 3, 10] mixed hn hG h (by kernel_rfl) ?_ ?_
      · exact ⟨⟨rfl, fun β => (GOk.plain (op_move (opt 0 rfl)) rfl)⟩, ⟨rfl, fun β => (GOk.plain (op_move (opt 0 rfl)) rfl)⟩, ⟨rfl, fun β => (GOk.plain (op_bin (bin_rem (by decide)) (opt 0 rfl) (opc (ic (by decide)))) rfl)⟩, ⟨rfl, fun β => (GOk.plain (op_convert_int Tryd.underlying84 Tryd.underlying5 (opt 0 rfl)) rfl)⟩, ⟨rfl, fun β => (GOk.plain (op_indexAddr_lb Tryd.underlying106 Tryd.sizeOf5 (opt 0 rfl) (opt 1 rfl) hv13) rfl)⟩, ⟨rfl, fun β => (GOk.plain (op_store_lbB (i := x5) [] [] Tryd.sizeOf5 (opt 0 rfl) (opt 1 rfl) rfl hv13) rfl)⟩, trivial⟩
      clear h
      intro β a w h
      change SatL c [.slot 0 (intVP .u64 x4), .slot 1 (intVP .i64 a_1), .slot 5 (lpVP p1 0), .slot 6 (intVP .i64 x5), .res (lb p1 106 [bytesCk 8 (x6.set x5.toNat (u8of (IntKind.wrap .u8 (x4.tmod 256))))])] a w at h
      clear β
      show Code.wp Tryd.prog _ _ a w
      refine region_do (n := 23) [.slot 18 100000 100000 (fun _ _ => (intVP .u64 x4)),
      .slot 19 100000 100000 (fun _ _ => (intVP .u64 (IntKind.wrap .u64 (x4.tdiv 256)))),
      .slot 0 100000 100000 (fun _ _ => (intVP .u64 (IntKind.wrap .u64 (x4.tdiv 256))))] [0, 1, 2] [⟨[0], [], [5], [], some 18⟩, ⟨[5], [], [6], [0], some 19⟩, ⟨[6], [0], [7], [0, 1], some 0⟩] [7, 1, 2, 3, 4] mixed hn hG h (by kernel_rfl) ?_ ?_
      · exact ⟨⟨rfl, fun β => (GOk.plain (op_move (opt 0 rfl)) rfl)⟩, ⟨rfl, fun β => (GOk.plain (op_bin (bin_quo (by decide)) (opt 0 rfl) (opc (ic (by decide)))) rfl)⟩, ⟨rfl, fun β => (GOk.drop _ (GOk.plain (op_assign (opt 0 rfl)) rfl))⟩, trivial⟩
      clear h
      intro β a w h
      change SatL c [.slot 0 (intVP .u64 (IntKind.wrap .u64 (x4.tdiv 256))), .slot 1 (intVP .i64 a_1), .slot 5 (lpVP p1 0), .slot 6 (intVP .i64 x5), .res (lb p1 106 [bytesCk 8 (x6.set x5.toNat (u8of (IntKind.wrap .u8 (x4.tmod 256))))])] a w at h
      clear β
      show Code.wp Tryd.prog _ _ a w
      refine region_do (n := 23) [.slot 11 100000 100000 (fun _ _ => (intVP .i64 x5)),
      .slot 12 100000 100000 (fun _ _ => (intVP .i64 (IntKind.wrap .i64 (x5 - 1)))),
      .slot 6 100000 100000 (fun _ _ => (intVP .i64 (IntKind.wrap .i64 (x5 - 1))))] [0, 1, 2] [⟨[3], [], [5], [], some 11⟩, ⟨[5], [], [6], [0], some 12⟩, ⟨[6], [3], [7], [0, 1], some 6⟩] [0, 1, 2, 7, 4] mixed hn hG h (by kernel_rfl) ?_ ?_
      · exact ⟨⟨rfl, fun β => (GOk.plain (op_move (opt 0 rfl)) rfl)⟩, ⟨rfl, fun β => (GOk.plain (op_bin bin_sub (opt 0 rfl) (opc (ic (by decide)))) rfl)⟩, ⟨rfl, fun β => (GOk.drop _ (GOk.plain (op_assign (opt 0 rfl)) rfl))⟩, trivial⟩
      clear h
      intro β a w h
      change SatL c [.slot 0 (intVP .u64 (IntKind.wrap .u64 (x4.tdiv 256))), .slot 1 (intVP .i64 a_1), .slot 5 (lpVP p1 0), .slot 6 (intVP .i64 (IntKind.wrap .i64 (x5 - 1))), .res (lb p1 106 [bytesCk 8 (x6.set x5.toNat (u8of (IntKind.wrap .u8 (x4.tmod 256))))])] a w at h
      clear β
      obtain rfl := Option.some.inj hF
      exact ⟨rfl, h.sub [0, 1, 2, 3, 4] (by rfl)⟩
    · replace hF := ff_of hb12 hF
      replace h := h.sub [0, 1, 2, 3, 5] (by rfl)
      change SatL c [.slot 0 (intVP .u64 x4), .slot 1 (intVP .i64 a_1), .slot 5 (lpVP p1 0), .slot 6 (intVP .i64 x5), .res (lb p1 106 [bytesCk 8 x6])] a w at h
      refine wp_exit ?_
      obtain rfl := Option.some.inj hF
      exact ⟨exit_ne _, rfl, h.sub [1, 2, 4] (by rfl)⟩
  · clear hl15
    intro e a w hq
    cases cr14 with
    | ret r16 =>
      obtain ⟨rfl, hq⟩ := hq
      obtain rfl := Option.some.inj hF
      exact ⟨.inl rfl, hq⟩
    | next s17 =>
      obtain ⟨y18, y19, y20⟩ := s17
      obtain ⟨rfl, h⟩ := hq
      change SatL c [.slot 1 (intVP .i64 a_1), .slot 5 (lpVP p1 0), .res (lb p1 106 [bytesCk 8 y20])] a w at h
      refine inBlock_at ?_
      show Code.wp Tryd.prog _ _ a w
      refine wp_seq ?_
      obtain ⟨hv21, hF⟩ := ite_some hF
      obtain ⟨hv22, hF⟩ := ite_some hF
      refine region_do (n := 23) [.slot 20 100000 100000 (fun _ _ => (intVP .i64 a_1)),
      .slot 21 100000 100000 (fun _ _ => (lslVP p1 (0 + (0 : Int).toNat * 1) ((a_1 : Int).toNat - (0 : Int).toNat) (8 - (0 : Int).toNat))),
      .slot 22 100000 100000 (fun _ _ => (strVP (y20.take ((a_1 : Int).toNat - (0 : Int).toNat)))),
      .slot 4 100000 100000 (fun _ _ => (strVP (y20.take ((a_1 : Int).toNat - (0 : Int).toNat))))] [0, 1, 2, 3] [⟨[0], [], [3], [], some 20⟩, ⟨[1, 3], [], [4], [0], some 21⟩, ⟨[4, 2], [], [5], [0, 1], some 22⟩, ⟨[5], [], [6], [0, 1, 2], some 4⟩] [6] mixed hn hG h (by kernel_rfl) ?_ ?_
      · exact ⟨⟨rfl, fun β => (GOk.plain (op_move (opt 0 rfl)) rfl)⟩, ⟨rfl, fun β => (GOk.plain (op_slice_lb (a := 0) (b := a_1) Tryd.underlying106 Tryd.sizeOf5 (opt 0 rfl) rfl ⟨_, (opt 1 rfl)⟩ hv21) rfl)⟩, ⟨rfl, fun β => (GOk.plain (op_str_lsl [] [] 1 Tryd.underlying79 Tryd.underlying5 Tryd.underlying9 (opt 0 rfl) rfl rfl hv22 (by decide)) rfl)⟩, ⟨rfl, fun β => (GOk.plain (op_assign (opt 0 rfl)) rfl)⟩, trivial⟩
      clear h
      intro β a w h
      change SatL c [.slot 4 (strVP (y20.take ((a_1 : Int).toNat - (0 : Int).toNat)))] a w at h
      clear β
      show Code.wp Tryd.prog _ _ a w
      refine wp_ret ?_
      obtain rfl := Option.some.inj hF
      exact ⟨.inl rfl, ret1 h Tryd.results49 (r_tmp 0 rfl) [] [] rfl rfl rfl⟩

def ref03_Text (a_0 : List UInt8) : Option (List UInt8) := ((ref03_Big (IntKind.wrap .u64 (a_0.length : Int)) 4).bind fun r1 => (if r1.length + a_0.length ≤ mxl then some (r1 ++ a_0) else none))
theorem ref03_Text_ok {a_0 : List UInt8} {r : (List UInt8)} (hF : ref03_Text a_0 = some r) : CallOk Tryd.prog KG 57 [(strVP a_0)] [] (fun _ => []) (strVP r) := by
  refine CallOk.intro 9 Tryd.func57 rfl Tryd.ntmps57 (Nat.le_of_ble_eq_true rfl) ?_
  intro c a w hG hn h
  unfold ref03_Text at hF
  change SatL c [.slot 0 (strVP a_0)] a w at h
  refine wp_seq ?_
  refine region_do (n := 9) [.slot 2 100000 100000 (fun _ _ => (strVP []))] [0] [⟨[], [], [1], [], some 2⟩] [0] mixed hn hG h (by kernel_rfl) ?_ ?_
  · exact ⟨⟨rfl, fun β => (GOk.plain (op_assign (opc (sc _ (by decide)))) rfl)⟩, trivial⟩
  clear h
  intro β a w h
  change SatL c [.slot 0 (strVP a_0)] a w at h
  clear β
  show Code.wp Tryd.prog _ _ a w
  refine wp_seq ?_
  obtain ⟨r1, hr1, hF⟩ := bind_some hF
  obtain ⟨hv2, hF⟩ := ite_some hF
  refine region_do (n := 9) [.slot 3 100000 100000 (fun _ _ => (strVP a_0)),
      .slot 4 100000 100000 (fun _ _ => (intVP .i64 (a_0.length : Int))),
      .slot 5 100000 100000 (fun _ _ => (intVP .u64 (IntKind.wrap .u64 (a_0.length : Int)))),
      .slot 6 100000 100000 (fun _ _ => (strVP r1)),
      .slot 7 100000 100000 (fun _ _ => (strVP a_0)),
      .slot 8 100000 100000 (fun _ _ => (strVP (r1 ++ a_0))),
      .slot 2 100000 100000 (fun _ _ => (strVP (r1 ++ a_0)))] [0, 1, 2, 3, 4, 5, 6] [⟨[0], [], [1], [], some 3⟩, ⟨[1], [], [2], [0], some 4⟩, ⟨[2], [], [3], [0, 1], some 5⟩, ⟨[3], [], [4], [0, 1, 2], some 6⟩, ⟨[0], [], [5], [0, 1, 2, 3], some 7⟩, ⟨[4, 5], [], [6], [0, 1, 2, 3, 4], some 8⟩, ⟨[6], [], [7], [0, 1, 2, 3, 4, 5], some 2⟩] [7] mixed hn hG h (by kernel_rfl) ?_ ?_
  · exact ⟨⟨rfl, fun β => (GOk.plain (op_move (opt 0 rfl)) rfl)⟩, ⟨rfl, fun β => (GOk.plain (op_len_str Tryd.underlying9 (opt 0 rfl)) rfl)⟩, ⟨rfl, fun β => (GOk.plain (op_convert_int Tryd.underlying3 Tryd.underlying84 (opt 0 rfl)) rfl)⟩, ⟨rfl, fun β => (GOk.plain (op_call Tryd.call49 (ref03_Big_ok hr1) ⟨(opt 0 rfl), (opc (ic (by decide))), trivial⟩) rfl)⟩, ⟨rfl, fun β => (GOk.plain (op_move (opt 0 rfl)) rfl)⟩, ⟨rfl, fun β => (GOk.plain (op_bin (bin_sadd hv2) (opt 0 rfl) (opt 1 rfl)) rfl)⟩, ⟨rfl, fun β => (GOk.plain (op_assign (opt 0 rfl)) rfl)⟩, trivial⟩
  clear h
  intro β a w h
  change SatL c [.slot 2 (strVP (r1 ++ a_0))] a w at h
  clear β
  show Code.wp Tryd.prog _ _ a w
  refine wp_ret ?_
  obtain rfl := Option.some.inj hF
  exact ⟨.inl rfl, ret1 h Tryd.results57 (r_tmp 0 rfl) [] [] rfl rfl rfl⟩

def ref01_turn (a_0 : Int) (a_1 : Int) : Option Int := some (bits .or .u32 (shr .u32 a_0 a_1) (shl .u32 a_0 (IntKind.wrap .u64 (32 - a_1))))
theorem ref01_turn_ok {a_0 : Int} {a_1 : Int} {r : Int} (hF : ref01_turn a_0 a_1 = some r) : CallOk Tryd.prog KG 75 [(intVP .u32 a_0), (intVP .u64 a_1)] [] (fun _ => []) (intVP .u32 r) := by
  refine CallOk.intro 13 Tryd.func75 rfl Tryd.ntmps75 (Nat.le_of_ble_eq_true rfl) ?_
  intro c a w hG hn h
  unfold ref01_turn at hF
  change SatL c [.slot 0 (intVP .u32 a_0), .slot 1 (intVP .u64 a_1)] a w at h
  refine wp_seq ?_
  refine region_do (n := 13) [.slot 4 100000 100000 (fun _ _ => (intVP .u32 0))] [0] [⟨[], [], [2], [], some 4⟩] [0, 1] mixed hn hG h (by kernel_rfl) ?_ ?_
  · exact ⟨⟨rfl, fun β => (GOk.plain (op_assign (opc (ic (by decide)))) rfl)⟩, trivial⟩
  clear h
  intro β a w h
  change SatL c [.slot 0 (intVP .u32 a_0), .slot 1 (intVP .u64 a_1)] a w at h
  clear β
  show Code.wp Tryd.prog _ _ a w
  refine wp_seq ?_
  refine region_do (n := 13) [.slot 5 100000 100000 (fun _ _ => (intVP .u32 a_0)),
      .slot 6 100000 100000 (fun _ _ => (intVP .u64 a_1)),
      .slot 7 100000 100000 (fun _ _ => (intVP .u32 (shr .u32 a_0 a_1))),
      .slot 8 100000 100000 (fun _ _ => (intVP .u32 a_0)),
      .slot 9 100000 100000 (fun _ _ => (intVP .u64 a_1)),
      .slot 10 100000 100000 (fun _ _ => (intVP .u64 (IntKind.wrap .u64 (32 - a_1)))),
      .slot 11 100000 100000 (fun _ _ => (intVP .u32 (shl .u32 a_0 (IntKind.wrap .u64 (32 - a_1))))),
      .slot 12 100000 100000 (fun _ _ => (intVP .u32 (bits .or .u32 (shr .u32 a_0 a_1) (shl .u32 a_0 (IntKind.wrap .u64 (32 - a_1)))))),
      .slot 4 100000 100000 (fun _ _ => (intVP .u32 (bits .or .u32 (shr .u32 a_0 a_1) (shl .u32 a_0 (IntKind.wrap .u64 (32 - a_1))))))] [0, 1, 2, 3, 4, 5, 6, 7, 8] [⟨[0], [], [2], [], some 5⟩, ⟨[1], [], [3], [0], some 6⟩, ⟨[2, 3], [], [4], [0, 1], some 7⟩, ⟨[0], [], [5], [0, 1, 2], some 8⟩, ⟨[1], [], [6], [0, 1, 2, 3], some 9⟩, ⟨[6], [], [7], [0, 1, 2, 3, 4], some 10⟩, ⟨[5, 7], [], [8], [0, 1, 2, 3, 4, 5], some 11⟩, ⟨[4, 8], [], [9], [0, 1, 2, 3, 4, 5, 6], some 12⟩, ⟨[9], [], [10], [0, 1, 2, 3, 4, 5, 6, 7], some 4⟩] [10] mixed hn hG h (by kernel_rfl) ?_ ?_
  · exact ⟨⟨rfl, fun β => (GOk.plain (op_move (opt 0 rfl)) rfl)⟩, ⟨rfl, fun β => (GOk.plain (op_move (opt 0 rfl)) rfl)⟩, ⟨rfl, fun β => (GOk.plain (op_bin (bin_shru rfl) (opt 0 rfl) (opt 1 rfl)) rfl)⟩, ⟨rfl, fun β => (GOk.plain (op_move (opt 0 rfl)) rfl)⟩, ⟨rfl, fun β => (GOk.plain (op_move (opt 0 rfl)) rfl)⟩, ⟨rfl, fun β => (GOk.plain (op_bin bin_sub (opc (ic (by decide))) (opt 0 rfl)) rfl)⟩, ⟨rfl, fun β => (GOk.plain (op_bin (bin_shlu rfl) (opt 0 rfl) (opt 1 rfl)) rfl)⟩, ⟨rfl, fun β => (GOk.plain (op_bin bin_or (opt 0 rfl) (opt 1 rfl)) rfl)⟩, ⟨rfl, fun β => (GOk.plain (op_assign (opt 0 rfl)) rfl)⟩, trivial⟩
  clear h
  intro β a w h
  change SatL c [.slot 4 (intVP .u32 (bits .or .u32 (shr .u32 a_0 a_1) (shl .u32 a_0 (IntKind.wrap .u64 (32 - a_1)))))] a w at h
  clear β
  show Code.wp Tryd.prog _ _ a w
  refine wp_ret ?_
  obtain rfl := Option.some.inj hF
  exact ⟨.inl rfl, ret1 h Tryd.results75 (r_tmp 0 rfl) [] [] rfl rfl rfl⟩

def ref01_First : Option (List Int) := some ([1779033703, 3144134277, 1013904242, 2773480762, 1359893119, 2600822924, 528734635, 1541459225] ++ List.replicate (8 - 8) 0)
theorem ref01_First_ok {r : (List Int)} (hF : ref01_First = some r) : CallOk Tryd.prog KG 59 [] [] (fun _ => []) (aggVP [intsCk .u32 8 r]) := by
  refine CallOk.intro 2 Tryd.func59 rfl Tryd.ntmps59 (Nat.le_of_ble_eq_true rfl) ?_
  intro c a w hG hn h
  unfold ref01_First at hF
  change SatL c [] a w at h
  refine wp_seq ?_
  refine region_do (n := 2) [.slot 0 0 100000 (fun v1_ _ => (lpVP v1_ 0)),
      .res 0 100000 (fun v1_ _ => (lb (v1_) 85 [intsCk .u32 8 (List.replicate 8 0)]))] [0, 0] [⟨[], [], [0, 1], [], some 0⟩] [0, 1] mixed hn hG h (by kernel_rfl) ?_ ?_
  · exact ⟨⟨rfl, fun β => (GOk.plain (op_alloc Tryd.zeroValue85 z85) rfl)⟩, trivial⟩
  clear h
  intro β a w h
  change SatL c [.slot 0 (lpVP (β 0) 0), .res (lb (β 0) 85 [intsCk .u32 8 (List.replicate 8 0)])] a w at h
  generalize β 0 = p1 at h
  clear β
  show Code.wp Tryd.prog _ _ a w
  refine wp_seq ?_
  refine region_do (n := 2) [.slot 1 100000 100000 (fun _ _ => (aggVP [intsCk .u32 8 ([1779033703, 3144134277, 1013904242, 2773480762, 1359893119, 2600822924, 528734635, 1541459225] ++ List.replicate (8 - 8) 0)])),
      .res 100000 100000 (fun _ _ => (lb p1 85 [intsCk .u32 8 ([1779033703, 3144134277, 1013904242, 2773480762, 1359893119, 2600822924, 528734635, 1541459225] ++ List.replicate (8 - 8) 0)]))] [0, 1] [⟨[], [], [2], [], some 1⟩, ⟨[0, 2], [1], [3], [0], none⟩] [0, 3] mixed hn hG h (by kernel_rfl) ?_ ?_
  · exact ⟨⟨rfl, fun β => (GOk.plain (op_buildI (xs := [.const (.int .u32 1779033703), .const (.int .u32 3144134277), .const (.int .u32 1013904242), .const (.int .u32 2773480762), .const (.int .u32 1359893119), .const (.int .u32 2600822924), .const (.int .u32 528734635), .const (.int .u32 1541459225)]) (ys := [1779033703, 3144134277, 1013904242, 2773480762, 1359893119, 2600822924, 528734635, 1541459225]) rfl bu85 ⟨⟨_, (opc (ic (by decide))), (cells_one (one_int _ _))⟩, ⟨_, (opc (ic (by decide))), (cells_one (one_int _ _))⟩, ⟨_, (opc (ic (by decide))), (cells_one (one_int _ _))⟩, ⟨_, (opc (ic (by decide))), (cells_one (one_int _ _))⟩, ⟨_, (opc (ic (by decide))), (cells_one (one_int _ _))⟩, ⟨_, (opc (ic (by decide))), (cells_one (one_int _ _))⟩, ⟨_, (opc (ic (by decide))), (cells_one (one_int _ _))⟩, ⟨_, (opc (ic (by decide))), (cells_one (one_int _ _))⟩, trivial⟩ (by decide) rfl) rfl)⟩, ⟨rfl, fun β => (GOk.plain (op_store_lb [] [intsCk .u32 8 (List.replicate 8 0)] [] [intsCk .u32 8 ([1779033703, 3144134277, 1013904242, 2773480762, 1359893119, 2600822924, 528734635, 1541459225] ++ List.replicate (8 - 8) 0)] Tryd.sizeOf85 (opt 0 rfl) (opt 1 rfl) (cells_agg _) rfl rfl rfl) rfl)⟩, trivial⟩
  clear h
  intro β a w h
  change SatL c [.slot 0 (lpVP p1 0), .res (lb p1 85 [intsCk .u32 8 ([1779033703, 3144134277, 1013904242, 2773480762, 1359893119, 2600822924, 528734635, 1541459225] ++ List.replicate (8 - 8) 0)])] a w at h
  clear β
  show Code.wp Tryd.prog _ _ a w
  refine wp_ret ?_
  obtain rfl := Option.some.inj hF
  exact ⟨.inl rfl, ret1 h Tryd.results59 (r_cell 0 1 rfl rfl Tryd.isAgg85 Tryd.sizeOf85 rfl) [] [] rfl rfl rfl⟩

def ref01_constants : Option (List Int) := some ([1116352408, 1899447441, 3049323471, 3921009573, 961987163, 1508970993, 2453635748, 2870763221, 3624381080, 310598401, 607225278, 1426881987, 1925078388, 2162078206, 2614888103, 3248222580, 3835390401, 4022224774, 264347078, 604807628, 770255983, 1249150122, 1555081692, 1996064986, 2554220882, 2821834349, 2952996808, 3210313671, 3336571891, 3584528711, 113926993, 338241895, 666307205, 773529912, 1294757372, 1396182291, 1695183700, 1986661051, 2177026350, 2456956037, 2730485921, 2820302411, 3259730800, 3345764771, 3516065817, 3600352804, 4094571909, 275423344, 430227734, 506948616, 659060556, 883997877, 958139571, 1322822218, 1537002063, 1747873779, 1955562222, 2024104815, 2227730452, 2361852424, 2428436474, 2756734187, 3204031479, 3329325298] ++ List.replicate (64 - 64) 0)
theorem ref01_constants_ok {r : (List Int)} (hF : ref01_constants = some r) : CallOk Tryd.prog KG 74 [] [] (fun _ => []) (aggVP [intsCk .u32 64 r]) := by
  refine CallOk.intro 2 Tryd.func74 rfl Tryd.ntmps74 (Nat.le_of_ble_eq_true rfl) ?_
  intro c a w hG hn h
  unfold ref01_constants at hF
  change SatL c [] a w at h
  refine wp_seq ?_
  refine region_do (n := 2) [.slot 0 0 100000 (fun v1_ _ => (lpVP v1_ 0)),
      .res 0 100000 (fun v1_ _ => (lb (v1_) 111 [intsCk .u32 64 (List.replicate 64 0)]))] [0, 0] [⟨[], [], [0, 1], [], some 0⟩] [0, 1] mixed hn hG h (by kernel_rfl) ?_ ?_
  · exact ⟨⟨rfl, fun β => (GOk.plain (op_alloc Tryd.zeroValue111 z111) rfl)⟩, trivial⟩
  clear h
  intro β a w h
  change SatL c [.slot 0 (lpVP (β 0) 0), .res (lb (β 0) 111 [intsCk .u32 64 (List.replicate 64 0)])] a w at h
  generalize β 0 = p1 at h
  clear β
  show Code.wp Tryd.prog _ _ a w
  refine wp_seq ?_
  refine region_do (n := 2) [.slot 1 100000 100000 (fun _ _ => (aggVP [intsCk .u32 64 ([1116352408, 1899447441, 3049323471, 3921009573, 961987163, 1508970993, 2453635748, 2870763221, 3624381080, 310598401, 607225278, 1426881987, 1925078388, 2162078206, 2614888103, 3248222580, 3835390401, 4022224774, 264347078, 604807628, 770255983, 1249150122, 1555081692, 1996064986, 2554220882, 2821834349, 2952996808, 3210313671, 3336571891, 3584528711, 113926993, 338241895, 666307205, 773529912, 1294757372, 1396182291, 1695183700, 1986661051, 2177026350, 2456956037, 2730485921, 2820302411, 3259730800, 3345764771, 3516065817, 3600352804, 4094571909, 275423344, 430227734, 506948616, 659060556, 883997877, 958139571, 1322822218, 1537002063, 1747873779, 1955562222, 2024104815, 2227730452, 2361852424, 2428436474, 2756734187, 3204031479, 3329325298] ++ List.replicate (64 - 64) 0)])),
      .res 100000 100000 (fun _ _ => (lb p1 111 [intsCk .u32 64 ([1116352408, 1899447441, 3049323471, 3921009573, 961987163, 1508970993, 2453635748, 2870763221, 3624381080, 310598401, 607225278, 1426881987, 1925078388, 2162078206, 2614888103, 3248222580, 3835390401, 4022224774, 264347078, 604807628, 770255983, 1249150122, 1555081692, 1996064986, 2554220882, 2821834349, 2952996808, 3210313671, 3336571891, 3584528711, 113926993, 338241895, 666307205, 773529912, 1294757372, 1396182291, 1695183700, 1986661051, 2177026350, 2456956037, 2730485921, 2820302411, 3259730800, 3345764771, 3516065817, 3600352804, 4094571909, 275423344, 430227734, 506948616, 659060556, 883997877, 958139571, 1322822218, 1537002063, 1747873779, 1955562222, 2024104815, 2227730452, 2361852424, 2428436474, 2756734187, 3204031479, 3329325298] ++ List.replicate (64 - 64) 0)]))] [0, 1] [⟨[], [], [2], [], some 1⟩, ⟨[0, 2], [1], [3], [0], none⟩] [0, 3] mixed hn hG h (by kernel_rfl) ?_ ?_
  · exact ⟨⟨rfl, fun β => (GOk.plain (op_buildI (xs := [.const (.int .u32 1116352408), .const (.int .u32 1899447441), .const (.int .u32 3049323471), .const (.int .u32 3921009573), .const (.int .u32 961987163), .const (.int .u32 1508970993), .const (.int .u32 2453635748), .const (.int .u32 2870763221), .const (.int .u32 3624381080), .const (.int .u32 310598401), .const (.int .u32 607225278), .const (.int .u32 1426881987), .const (.int .u32 1925078388), .const (.int .u32 2162078206), .const (.int .u32 2614888103), .const (.int .u32 3248222580), .const (.int .u32 3835390401), .const (.int .u32 4022224774), .const (.int .u32 264347078), .const (.int .u32 604807628), .const (.int .u32 770255983), .const (.int .u32 1249150122), .const (.int .u32 1555081692), .const (.int .u32 1996064986), .const (.int .u32 2554220882), .const (.int .u32 2821834349), .const (.int .u32 2952996808), .const (.int .u32 3210313671), .const (.int .u32 3336571891), .const (.int .u32 3584528711), .const (.int .u32 113926993), .const (.int .u32 338241895), .const (.int .u32 666307205), .const (.int .u32 773529912), .const (.int .u32 1294757372), .const (.int .u32 1396182291), .const (.int .u32 1695183700), .const (.int .u32 1986661051), .const (.int .u32 2177026350), .const (.int .u32 2456956037), .const (.int .u32 2730485921), .const (.int .u32 2820302411), .const (.int .u32 3259730800), .const (.int .u32 3345764771), .const (.int .u32 3516065817), .const (.int .u32 3600352804), .const (.int .u32 4094571909), .const (.int .u32 275423344), .const (.int .u32 430227734), .const (.int .u32 506948616), .const (.int .u32 659060556), .const (.int .u32 883997877), .const (.int .u32 958139571), .const (.int .u32 1322822218), .const (.int .u32 1537002063), .const (.int .u32 1747873779), .const (.int .u32 1955562222), .const (.int .u32 2024104815), .const (.int .u32 2227730452), .const (.int .u32 2361852424), .const (.int .u32 2428436474), .const (.int .u32 2756734187), .const (.int .u32 3204031479), .const (.int .u32 3329325298)]) (ys := [1116352408, 1899447441, 3049323471, 3921009573, 961987163, 1508970993, 2453635748, 2870763221, 3624381080, 310598401, 607225278, 1426881987, 1925078388, 2162078206, 2614888103, 3248222580, 3835390401, 4022224774, 264347078, 604807628, 770255983, 1249150122, 1555081692, 1996064986, 2554220882, 2821834349, 2952996808, 3210313671, 3336571891, 3584528711, 113926993, 338241895, 666307205, 773529912, 1294757372, 1396182291, 1695183700, 1986661051, 2177026350, 2456956037, 2730485921, 2820302411, 3259730800, 3345764771, 3516065817, 3600352804, 4094571909, 275423344, 430227734, 506948616, 659060556, 883997877, 958139571, 1322822218, 1537002063, 1747873779, 1955562222, 2024104815, 2227730452, 2361852424, 2428436474, 2756734187, 3204031479, 3329325298]) rfl bu111 ⟨⟨_, (opc (ic (by decide))), (cells_one (one_int _ _))⟩, ⟨_, (opc (ic (by decide))), (cells_one (one_int _ _))⟩, ⟨_, (opc (ic (by decide))), (cells_one (one_int _ _))⟩, ⟨_, (opc (ic (by decide))), (cells_one (one_int _ _))⟩, ⟨_, (opc (ic (by decide))), (cells_one (one_int _ _))⟩, ⟨_, (opc (ic (by decide))), (cells_one (one_int _ _))⟩, ⟨_, (opc (ic (by decide))), (cells_one (one_int _ _))⟩, ⟨_, (opc (ic (by decide))), (cells_one (one_int _ _))⟩, ⟨_, (opc (ic (by decide))), (cells_one (one_int _ _))⟩, ⟨_, (opc (ic (by decide))), (cells_one (one_int _ _))⟩, ⟨_, (opc (ic (by decide))), (cells_one (one_int _ _))⟩, ⟨_, (opc (ic (by decide))), (cells_one (one_int _ _))⟩, ⟨_, (opc (ic (by decide))), (cells_one (one_int _ _))⟩, ⟨_, (opc (ic (by decide))), (cells_one (one_int _ _))⟩, ⟨_, (opc (ic (by decide))), (cells_one (one_int _ _))⟩, ⟨_, (opc (ic (by decide))), (cells_one (one_int _ _))⟩, ⟨_, (opc (ic (by decide))), (cells_one (one_int _ _))⟩, ⟨_, (opc (ic (by decide))), (cells_one (one_int _ _))⟩, ⟨_, (opc (ic (by decide))), (cells_one (one_int _ _))⟩, ⟨_, (opc (ic (by decide))), (cells_one (one_int _ _))⟩, ⟨_, (opc (ic (by decide))), (cells_one (one_int _ _))⟩, ⟨_, (opc (ic (by decide))), (cells_one (one_int _ _))⟩, ⟨_, (opc (ic (by decide))), (cells_one (one_int _ _))⟩, ⟨_, (opc (ic (by decide))), (cells_one (one_int _ _))⟩, ⟨_, (opc (ic (by decide))), (cells_one (one_int _ _))⟩, ⟨_, (opc (ic (by decide))), (cells_one (one_int _ _))⟩, ⟨_, (opc (ic (by decide))), (cells_one (one_int _ _))⟩, ⟨_, (opc (ic (by decide))), (cells_one (one_int _ _))⟩, ⟨_, (opc (ic (by decide))), (cells_one (one_int _ _))⟩, ⟨_, (opc (ic (by decide))), (cells_one (one_int _ _))⟩, ⟨_, (opc (ic (by decide))), (cells_one (one_int _ _))⟩, ⟨_, (opc (ic (by decide))), (cells_one (one_int _ _))⟩, ⟨_, (opc (ic (by decide))), (cells_one (one_int _ _))⟩, ⟨_, (opc (ic (by decide))), (cells_one (one_int _ _))⟩, ⟨_, (opc (ic (by decide))), (cells_one (one_int _ _))⟩, ⟨_, (opc (ic (by decide))), (cells_one (one_int _ _))⟩, ⟨_, (opc (ic (by decide))), (cells_one (one_int _ _))⟩, ⟨_, (opc (ic (by decide))), (cells_one (one_int _ _))⟩, ⟨_, (opc (ic (by decide))), (cells_one (one_int _ _))⟩, ⟨_, (opc (ic (by decide))), (cells_one (one_int _ _))⟩, ⟨_, (opc (ic (by decide))), (cells_one (one_int _ _))⟩, ⟨_, (opc (ic (by decide))), (cells_one (one_int _ _))⟩, ⟨_, (opc (ic (by decide))), (cells_one (one_int _ _))⟩, ⟨_, (opc (ic (by decide))), (cells_one (one_int _ _))⟩, ⟨_, (opc (ic (by decide))), (cells_one (one_int _ _))⟩, ⟨_, (opc (ic (by decide))), (cells_one (one_int _ _))⟩, ⟨_, (opc (ic (by decide))), (cells_one (one_int _ _))⟩, ⟨_, (opc (ic (by decide))), (cells_one (one_int _ _))⟩, ⟨_, (opc (ic (by decide))), (cells_one (one_int _ _))⟩, ⟨_, (opc (ic (by decide))), (cells_one (one_int _ _))⟩, ⟨_, (opc (ic (by decide))), (cells_one (one_int _ _))⟩, ⟨_, (opc (ic (by decide))), (cells_one (one_int _ _))⟩, ⟨_, (opc (ic (by decide))), (cells_one (one_int _ _))⟩, ⟨_, (opc (ic (by decide))), (cells_one (one_int _ _))⟩, ⟨_, (opc (ic (by decide))), (cells_one (one_int _ _))⟩, ⟨_, (opc (ic (by decide))), (cells_one (one_int _ _))⟩, ⟨_, (opc (ic (by decide))), (cells_one (one_int _ _))⟩, ⟨_, (opc (ic (by decide))), (cells_one (one_int _ _))⟩, ⟨_, (opc (ic (by decide))), (cells_one (one_int _ _))⟩, ⟨_, (opc (ic (by decide))), (cells_one (one_int _ _))⟩, ⟨_, (opc (ic (by decide))), (cells_one (one_int _ _))⟩, ⟨_, (opc (ic (by decide))), (cells_one (one_int _ _))⟩, ⟨_, (opc (ic (by decide))), (cells_one (one_int _ _))⟩, ⟨_, (opc (ic (by decide))), (cells_one (one_int _ _))⟩, trivial⟩ (by decide) rfl) rfl)⟩, ⟨rfl, fun β => (GOk.plain (op_store_lb [] [intsCk .u32 64 (List.replicate 64 0)] [] [intsCk .u32 64 ([1116352408, 1899447441, 3049323471, 3921009573, 961987163, 1508970993, 2453635748, 2870763221, 3624381080, 310598401, 607225278, 1426881987, 1925078388, 2162078206, 2614888103, 3248222580, 3835390401, 4022224774, 264347078, 604807628, 770255983, 1249150122, 1555081692, 1996064986, 2554220882, 2821834349, 2952996808, 3210313671, 3336571891, 3584528711, 113926993, 338241895, 666307205, 773529912, 1294757372, 1396182291, 1695183700, 1986661051, 2177026350, 2456956037, 2730485921, 2820302411, 3259730800, 3345764771, 3516065817, 3600352804, 4094571909, 275423344, 430227734, 506948616, 659060556, 883997877, 958139571, 1322822218, 1537002063, 1747873779, 1955562222, 2024104815, 2227730452, 2361852424, 2428436474, 2756734187, 3204031479, 3329325298] ++ List.replicate (64 - 64) 0)] Tryd.sizeOf111 (opt 0 rfl) (opt 1 rfl) (cells_agg _) rfl rfl rfl) rfl)⟩, trivial⟩
  clear h
  intro β a w h
  change SatL c [.slot 0 (lpVP p1 0), .res (lb p1 111 [intsCk .u32 64 ([1116352408, 1899447441, 3049323471, 3921009573, 961987163, 1508970993, 2453635748, 2870763221, 3624381080, 310598401, 607225278, 1426881987, 1925078388, 2162078206, 2614888103, 3248222580, 3835390401, 4022224774, 264347078, 604807628, 770255983, 1249150122, 1555081692, 1996064986, 2554220882, 2821834349, 2952996808, 3210313671, 3336571891, 3584528711, 113926993, 338241895, 666307205, 773529912, 1294757372, 1396182291, 1695183700, 1986661051, 2177026350, 2456956037, 2730485921, 2820302411, 3259730800, 3345764771, 3516065817, 3600352804, 4094571909, 275423344, 430227734, 506948616, 659060556, 883997877, 958139571, 1322822218, 1537002063, 1747873779, 1955562222, 2024104815, 2227730452, 2361852424, 2428436474, 2756734187, 3204031479, 3329325298] ++ List.replicate (64 - 64) 0)])] a w at h
  clear β
  show Code.wp Tryd.prog _ _ a w
  refine wp_ret ?_
  obtain rfl := Option.some.inj hF
  exact ⟨.inl rfl, ret1 h Tryd.results74 (r_cell 0 1 rfl rfl Tryd.isAgg111 Tryd.sizeOf111 rfl) [] [] rfl rfl rfl⟩
end Go.Proofs.YtbhehllkimedaaaDoor
