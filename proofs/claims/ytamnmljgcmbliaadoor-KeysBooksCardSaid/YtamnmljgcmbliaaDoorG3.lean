/- The functions' Lean twins and contracts, printed by this session's own program: part 3. -/
import Derived.Test.YtamnmljgcmbliaaDoorG2
namespace Go.Proofs.YtamnmljgcmbliaaDoor
open Go Go.RowKit Go.Proofs
set_option maxRecDepth 100000
set_option maxHeartbeats 4000000
set_option linter.unusedVariables false
def keys_Has (a_0 : List (S_keys_Signed)) (a_1 : List UInt8) (a_2 : List UInt8) : Option Bool := ((slices_Contains_keys_Signed a_0 (S_keys_Signed.mk a_1 a_2)).bind fun r3 => some r3)
theorem keys_Has_ok {a_0 : List (S_keys_Signed)} {a_1 : List UInt8} {a_2 : List UInt8} {r : Bool} (hF : keys_Has a_0 a_1 a_2 = some r) : CallOk Tryd.prog KG 35 [(slVP S_keys_Signed.ck a_0), (aggVP [bytesCk 32 a_1]), (aggVP [bytesCk 32 a_2])] [] (fun _ => []) (boolVP r) := by
  refine CallOk.intro 12 Tryd.func35 rfl Tryd.ntmps35 (Nat.le_of_ble_eq_true rfl) ?_
  intro c a w hG hn h
  unfold keys_Has at hF
  change SatL c [.slot 0 (slVP S_keys_Signed.ck a_0), .slot 1 (aggVP [bytesCk 32 a_1]), .slot 2 (aggVP [bytesCk 32 a_2])] a w at h
  refine regS mixed hn hG h [0, 504, 502, 503, 501] (ob [1] (op_box q0 (cells_agg _)) <| ob [2] (op_box q0 (cells_agg _)) <| ov [] (op_assign qb) .nil) fun b1 a w h => ?_
  obtain ⟨r3, hr3, hF⟩ := bind_some hF
  refine regS mixed hn hG h [500] (ov [0] (op_move q0) <| ov [1, 3] (op_load_w 1 Tryd.isAgg23 Tryd.sizeOf23 q0) <| ov [2, 4] (op_load_w 1 Tryd.isAgg23 Tryd.sizeOf23 q0) <| ov [501, 500] (op_build [(0, .tmp 8), (1, .tmp 9)] rfl bu67 z67 ⟨[], [bytesCk 32 (List.replicate 32 0)], [bytesCk 32 (List.replicate 32 0)], [bytesCk 32 a_1], _, rfl, rfl, rfl, q0, (cells_agg _), ⟨[bytesCk 32 a_1], [bytesCk 32 (List.replicate 32 0)], [], [bytesCk 32 a_2], _, rfl, rfl, rfl, q1, (cells_agg _), rfl⟩⟩) <| oc [503, 500] [] Tryd.call66 (slices_Contains_keys_Signed_ok hr3) ⟨q0, q1, trivial⟩ <| ov [500] (op_assign q0) .nil) fun _ a w h => ?_
  refine wp_ret ?_
  obtain rfl := Option.some.inj hF
  exact ⟨.inl rfl, ret1 h Tryd.results35 (r_tmp 0 rfl) [] [] rfl rfl rfl⟩

def slices_Clone_keys_Signed (a_0 : List (S_keys_Signed)) : Option (List (S_keys_Signed)) := (if a_0.length * 64 ≤ 140737488355328 then some a_0 else none)
theorem slices_Clone_keys_Signed_ok {a_0 r : List (S_keys_Signed)} (hF : slices_Clone_keys_Signed a_0 = some r) : CallOk Tryd.prog KG 65 [(slVP S_keys_Signed.ck a_0)] [] (fun _ => []) (slVP S_keys_Signed.ck r) := by
  unfold slices_Clone_keys_Signed at hF
  obtain ⟨hv1, hF⟩ := ite_some hF
  obtain rfl := Option.some.inj hF
  refine CallOk.intro 8 Tryd.func65 rfl Tryd.ntmps65 (Nat.le_of_ble_eq_true rfl) ?_
  intro c a w hG hn h
  change SatL c [.slot 0 (slVP S_keys_Signed.ck a_0)] a w at h
  refine wp_seq ?_
  refine region_do (n := 8) [.slot 2 100000 100000 (fun _ _ => (eqVP (.slice none 0 0)))] [0] [⟨[], [], [1], [], some 2⟩] [0] mixed hn hG h (by kernel_rfl) ?_ ?_
  · exact ⟨⟨rfl, fun β => (GOk.plain (op_assign (opc (ec _))) rfl)⟩, trivial⟩
  clear h
  intro β a w h
  change SatL c [.slot 0 (slVP S_keys_Signed.ck a_0)] a w at h
  clear β
  show Code.wp Tryd.prog _ _ a w
  refine wp_seq ?_
  refine wp_seq ?_
  refine region_do (n := 8) [.slot 3 100000 100000 (fun _ _ => (slVP S_keys_Signed.ck a_0)), .slot 4 100000 100000 (fun _ _ => (nilqVP a_0))] [0, 1] [⟨[0], [], [1], [], some 3⟩, ⟨[1], [], [2], [0], some 4⟩] [0, 2] mixed hn hG h (by kernel_rfl) ?_ ?_
  · exact ⟨⟨rfl, fun β => (GOk.plain (op_move (opt 0 rfl)) rfl)⟩, ⟨rfl, fun β => (GOk.plain (op_bin (bin_slnil Tryd.underlying64) (opt 0 rfl) (opc (ec _))) rfl)⟩, trivial⟩
  clear h
  intro β a w h
  change SatL c [.slot 0 (slVP S_keys_Signed.ck a_0), .slot 4 (nilqVP a_0)] a w at h
  clear β
  show Code.wp Tryd.prog _ _ a w
  obtain ⟨b0, hb0, h⟩ := h.nilq 1 rfl
  change SatL c [.slot 0 (slVP S_keys_Signed.ck a_0), .slot 4 (boolVP b0)] a w at h
  refine cond_L h 1 rfl (fun hb => ?_) (fun hb => ?_)
  · obtain rfl := hb0 hb
    replace h := h.sub [] (by rfl)
    change SatL c [] a w at h
    refine wp_seq ?_
    refine region_do (n := 8) [.slot 2 100000 100000 (fun _ _ => (eqVP (.slice none 0 0)))] [0] [⟨[], [], [0], [], some 2⟩] [0] mixed hn hG h (by kernel_rfl) ?_ ?_
    · exact ⟨⟨rfl, fun β => (GOk.plain (op_assign (opc (ec _))) rfl)⟩, trivial⟩
    clear h
    intro β a w h
    change SatL c [.slot 2 (eqVP (.slice none 0 0))] a w at h
    clear β
    show Code.wp Tryd.prog _ _ a w
    refine wp_ret ?_
    exact ⟨.inl rfl, ret1 h Tryd.results65 (r_nil 0 rfl) [] [] rfl rfl rfl⟩
  · replace h := h.sub [0] (by rfl)
    change SatL c [.slot 0 (slVP S_keys_Signed.ck a_0)] a w at h
    refine wp_skip ?_
    show Code.wp Tryd.prog _ _ a w
    refine wp_seq ?_
    refine region_do (n := 8) [.slot 5 100000 100000 (fun _ _ => empVP), .slot 6 100000 100000 (fun _ _ => (slVP S_keys_Signed.ck a_0)), .slot 7 100000 100000 (fun _ _ => (slVP S_keys_Signed.ck a_0)), .slot 2 100000 100000 (fun _ _ => (slVP S_keys_Signed.ck a_0))] [0, 1, 2, 3] [⟨[], [], [1], [], some 5⟩, ⟨[0], [], [2], [0], some 6⟩, ⟨[1, 2], [], [3], [0, 1], some 7⟩, ⟨[3], [], [4], [0, 1, 2], some 2⟩] [4] mixed hn hG h (by kernel_rfl) ?_ ?_
    · exact ⟨⟨rfl, fun β => (GOk.plain (op_lit0 Tryd.underlying64 Tryd.sizeOf67 Tryd.zeroValue67) rfl)⟩, ⟨rfl, fun β => (GOk.plain (op_move (opt 0 rfl)) rfl)⟩, ⟨rfl, fun β => (GOk.plain (op_append_emp (i := Tryd.t67) Tryd.underlying64 Tryd.type67 rfl S_keys_Signed.lens (by decide) rfl (opt 0 rfl) (opt 1 rfl) hv1) rfl)⟩, ⟨rfl, fun β => (GOk.plain (op_assign (opt 0 rfl)) rfl)⟩, trivial⟩
    clear h
    intro β a w h
    change SatL c [.slot 2 (slVP S_keys_Signed.ck a_0)] a w at h
    clear β
    show Code.wp Tryd.prog _ _ a w
    refine wp_ret ?_
    exact ⟨.inl rfl, ret1 h Tryd.results65 (r_tmp 0 rfl) [] [] rfl rfl rfl⟩
theorem slices_Clone_keys_Signed_own {a_0 r : List (S_keys_Signed)} (hF : slices_Clone_keys_Signed a_0 = some r) : CallOk Tryd.prog KG 65 [(slVP S_keys_Signed.ck a_0)] [] (fun v => [own v 67 64 S_keys_Signed.ck r]) anyVP := by
  unfold slices_Clone_keys_Signed at hF
  obtain ⟨hv1, hF⟩ := ite_some hF
  obtain rfl := Option.some.inj hF
  refine CallOk.intro 8 Tryd.func65 rfl Tryd.ntmps65 (Nat.le_of_ble_eq_true rfl) ?_
  intro c a w hG hn h
  change SatL c [.slot 0 (slVP S_keys_Signed.ck a_0)] a w at h
  have hm : a_0.length ≤ mxl := h.slotp 0 rfl (fun _ _ q => q.1)
  refine wp_seq ?_
  refine region_do (n := 8) [.slot 2 100000 100000 (fun _ _ => (eqVP (.slice none 0 0)))] [0] [⟨[], [], [1], [], some 2⟩] [0] mixed hn hG h (by kernel_rfl) ?_ ?_
  · exact ⟨⟨rfl, fun β => (GOk.plain (op_assign (opc (ec _))) rfl)⟩, trivial⟩
  clear h
  intro β a w h
  change SatL c [.slot 0 (slVP S_keys_Signed.ck a_0)] a w at h
  clear β
  show Code.wp Tryd.prog _ _ a w
  refine wp_seq ?_
  refine wp_seq ?_
  refine region_do (n := 8) [.slot 3 100000 100000 (fun _ _ => (slVP S_keys_Signed.ck a_0)), .slot 4 100000 100000 (fun _ _ => (nilqVP a_0))] [0, 1] [⟨[0], [], [1], [], some 3⟩, ⟨[1], [], [2], [0], some 4⟩] [0, 2] mixed hn hG h (by kernel_rfl) ?_ ?_
  · exact ⟨⟨rfl, fun β => (GOk.plain (op_move (opt 0 rfl)) rfl)⟩, ⟨rfl, fun β => (GOk.plain (op_bin (bin_slnil Tryd.underlying64) (opt 0 rfl) (opc (ec _))) rfl)⟩, trivial⟩
  clear h
  intro β a w h
  change SatL c [.slot 0 (slVP S_keys_Signed.ck a_0), .slot 4 (nilqVP a_0)] a w at h
  clear β
  show Code.wp Tryd.prog _ _ a w
  obtain ⟨b0, hb0, h⟩ := h.nilq 1 rfl
  change SatL c [.slot 0 (slVP S_keys_Signed.ck a_0), .slot 4 (boolVP b0)] a w at h
  refine cond_L h 1 rfl (fun hb => ?_) (fun hb => ?_)
  · obtain rfl := hb0 hb
    replace h := h.sub [] (by rfl)
    change SatL c [] a w at h
    refine wp_seq ?_
    refine region_do (n := 8) [.slot 2 100000 100000 (fun _ _ => (eqVP (.slice none 0 0)))] [0] [⟨[], [], [0], [], some 2⟩] [0] mixed hn hG h (by kernel_rfl) ?_ ?_
    · exact ⟨⟨rfl, fun β => (GOk.plain (op_assign (opc (ec _))) rfl)⟩, trivial⟩
    clear h
    intro β a w h
    change SatL c [.slot 2 (eqVP (.slice none 0 0))] a w at h
    clear β
    replace h := h.nilown 67 64 S_keys_Signed.ck
    show Code.wp Tryd.prog _ _ a w
    refine wp_ret ?_
    exact ⟨.inl rfl, ret1v (p := .slice none 0 0) h Tryd.results65 (r_tmp 0 rfl) [1] _ rfl rfl rfl⟩
  · replace h := h.sub [0] (by rfl)
    change SatL c [.slot 0 (slVP S_keys_Signed.ck a_0)] a w at h
    refine wp_skip ?_
    show Code.wp Tryd.prog _ _ a w
    refine wp_seq ?_
    refine region_do (n := 8) [.slot 5 0 100000 (fun v _ => (eqVP v)), .res 0 100000 (fun v _ => (own v 67 64 S_keys_Signed.ck ([] : List (S_keys_Signed)))), .slot 6 100000 100000 (fun _ _ => (slVP S_keys_Signed.ck a_0)), .slot 7 2 100000 (fun v _ => (eqVP v)), .res 2 100000 (fun v _ => (own v 67 64 S_keys_Signed.ck (([] : List (S_keys_Signed)) ++ a_0))), .slot 2 2 100000 (fun v _ => (eqVP v))] [0, 0, 1, 2, 2, 3] [⟨[], [], [1, 2], [], some 5⟩, ⟨[0], [], [3], [0], some 6⟩, ⟨[1, 3], [2], [4, 5], [0, 1], some 7⟩, ⟨[4], [], [6], [0, 1, 2], some 2⟩] [6, 5] mixed hn hG h (by kernel_rfl) ?_ ?_
    · exact ⟨⟨rfl, fun β => (GOk.plain (op_lit0O Tryd.underlying64 Tryd.sizeOf67 Tryd.zeroValue67) rfl)⟩, ⟨rfl, fun β => (GOk.plain (op_move (opt 0 rfl)) rfl)⟩, ⟨rfl, fun β => (GOk.plain (op_ownAppend (i := Tryd.t67) Tryd.underlying64 Tryd.type67 rfl S_keys_Signed.lens (by decide) rfl (opt 0 rfl) (opt 1 rfl) ⟨by simpa using hm, by rw [List.length_nil, Nat.zero_add]; exact hv1⟩) rfl)⟩, ⟨rfl, fun β => (GOk.plain (op_assign (V := eqVP (β 2)) (opt 0 rfl)) rfl)⟩, trivial⟩
    clear h
    intro β a w h
    change SatL c [.slot 2 (eqVP (β 2)), .res (own (β 2) 67 64 S_keys_Signed.ck a_0)] a w at h
    generalize β 2 = p at h
    clear β
    show Code.wp Tryd.prog _ _ a w
    refine wp_ret ?_
    exact ⟨.inl rfl, ret1v (p := p) h Tryd.results65 (r_tmp 0 rfl) [1] _ rfl rfl rfl⟩

def keys_Note.j1 (x8 : List (S_keys_Signed)) : Option (List (S_keys_Signed)) := some x8
def keys_Note (a_0 : List (S_keys_Signed)) (a_1 : List UInt8) (a_2 : List UInt8) : Option (List (S_keys_Signed)) := ((slices_Clone_keys_Signed a_0).bind fun r3 => ((keys_Has a_0 a_1 a_2).bind fun r5 => (if (!r5) = true then (if r3.length + [(S_keys_Signed.mk a_1 a_2)].length ≤ mxl ∧ (r3.length + [(S_keys_Signed.mk a_1 a_2)].length) * 64 ≤ 140737488355328 then keys_Note.j1 (r3 ++ [(S_keys_Signed.mk a_1 a_2)]) else none) else keys_Note.j1 r3)))
theorem keys_Note_ok {a_0 : List (S_keys_Signed)} {a_1 : List UInt8} {a_2 : List UInt8} {r : (List (S_keys_Signed))} (hF : keys_Note a_0 a_1 a_2 = some r) : CallOk Tryd.prog KG 33 [(slVP S_keys_Signed.ck a_0), (aggVP [bytesCk 32 a_1]), (aggVP [bytesCk 32 a_2])] [] (fun _ => []) (slVP S_keys_Signed.ck r) := by
  refine CallOk.intro 22 Tryd.func33 rfl Tryd.ntmps33 (Nat.le_of_ble_eq_true rfl) ?_
  intro c a w hG hn h
  unfold keys_Note at hF
  change SatL c [.slot 0 (slVP S_keys_Signed.ck a_0), .slot 1 (aggVP [bytesCk 32 a_1]), .slot 2 (aggVP [bytesCk 32 a_2])] a w at h
  refine regS mixed hn hG h [0, 504, 502, 503, 501] (ob [1] (op_box q0 (cells_agg _)) <| ob [2] (op_box q0 (cells_agg _)) <| ov [] (op_assign (opc (ec _))) .nil) fun b1 a w h => ?_
  obtain ⟨r3, hr3, hF⟩ := bind_some hF
  refine regS mixed hn hG h [0, 1, 2, 500, 3, 4, 501] (ov [0] (op_move q0) <| og [500] [] [.slot 9 1 100000 (fun v1_ _ => (eqVP v1_)), .res 1 100000 (fun v1_ _ => (own (v1_) 67 64 S_keys_Signed.ck r3))] (GOk.plain (op_callv Tryd.call65 (slices_Clone_keys_Signed_own hr3) ⟨q0, trivial⟩) rfl) <| og [501] [] [.slot 7 1 100000 (fun v1_ _ => (eqVP v1_))] (fun {β} => (GOk.plain (op_assign (V := (eqVP (β 1))) q0) rfl)) .nil) fun b4 a w h => ?_
  refine wp_seq ?_
  obtain ⟨r5, hr5, hF⟩ := bind_some hF
  refine regS mixed hn hG h [1, 2, 3, 500, 4, 5, 6] (ov [0] (op_move q0) <| ov [1, 4] (op_load_w 1 Tryd.isAgg23 Tryd.sizeOf23 q0) <| ov [2, 5] (op_load_w 1 Tryd.isAgg23 Tryd.sizeOf23 q0) <| oc [502, 501, 500] [] Tryd.call35 (keys_Has_ok hr5) ⟨q0, q1, q2, trivial⟩ <| ov [500] (op_un (un_not _) q0) .nil) fun _ a w h => ?_
  refine wp_cut (fun a w => ∃ (x8 : List (S_keys_Signed)), ∃ q9 : Value, keys_Note.j1 x8 = some r ∧ SatL c [.slot 7 (eqVP q9), .res (own q9 67 64 S_keys_Signed.ck x8)] a w) ?_ ?_
  · refine cnd h hF 3 [0, 1, 2, 4, 5, 6] [2, 6] (fun hb10 hF h => ?_) (fun hb10 hF h => ?_)
    · obtain ⟨hv11, hF⟩ := ite_some hF
      refine reg mixed hn hG h [500, 501] (ov [2] (op_move q0) <| ov [0, 3] (op_load_w 1 Tryd.isAgg23 Tryd.sizeOf23 q0) <| ov [1, 4] (op_load_w 1 Tryd.isAgg23 Tryd.sizeOf23 q0) <| ov [501, 500] (op_build [(0, .tmp 16), (1, .tmp 17)] rfl bu67 z67 ⟨[], [bytesCk 32 (List.replicate 32 0)], [bytesCk 32 (List.replicate 32 0)], [bytesCk 32 a_1], _, rfl, rfl, rfl, q0, (cells_agg _), ⟨[bytesCk 32 a_1], [bytesCk 32 (List.replicate 32 0)], [], [bytesCk 32 a_2], _, rfl, rfl, rfl, q1, (cells_agg _), rfl⟩⟩) <| ov [500] (op_lit (xs := [.tmp 18]) (ys := [(S_keys_Signed.mk a_1 a_2)]) _ rfl Tryd.underlying64 Tryd.sizeOf67 Tryd.zeroValue67 rfl rfl (by decide) (by decide) ⟨⟨_, q0, (cells_agg _)⟩, trivial⟩ S_keys_Signed.lens) <| og [504, 500] [5] [.slot 20 5 100000 (fun v1_ _ => (eqVP v1_)), .res 5 100000 (fun v1_ _ => (own (v1_) 67 64 S_keys_Signed.ck (r3 ++ [(S_keys_Signed.mk a_1 a_2)])))] (GOk.plain (op_ownAppend (i := Tryd.t67) Tryd.underlying64 Tryd.type67 rfl S_keys_Signed.lens (by decide) rfl q0 q1 hv11) rfl) <| og [501] [2] [.slot 7 5 100000 (fun v1_ _ => (eqVP v1_))] (fun {β} => (GOk.drop _ (GOk.plain (op_assign (V := (eqVP (β 5))) q0) rfl))) .nil) fun b12 a w h => ?_
      exact ⟨r3 ++ [(S_keys_Signed.mk a_1 a_2)], (b12 5), hF, h.sub [0, 1] (by rfl)⟩
    · refine wp_skip ?_
      exact ⟨r3, (b4 1), hF, h.sub [0, 1] (by rfl)⟩
  · clear h hF
    rintro a w ⟨x8, q9, hF, h⟩
    unfold keys_Note.j1 at hF
    show Code.wp Tryd.prog _ _ a w
    refine regS mixed hn hG h [500, 1] (ov [0] (op_move q0) <| ov [500] (op_assign q0) .nil) fun _ a w h => ?_
    refine wp_ret ?_
    replace h := h.ownacc 1 rfl
    change SatL c [.slot 6 (eqVP q9), .res (acc q9 67 64 S_keys_Signed.ck x8)] a w at h
    obtain rfl := Option.some.inj hF
    exact ⟨.inl rfl, ret1 h Tryd.results33 (r_acc 0 1 rfl rfl) [] [] rfl rfl rfl⟩

def ref06_Has.j1 (x8 : Int) (x18 : Bool) : Option (Flow Bool Int) := (if x18 = true then some (.ret true) else some (.cont (IntKind.wrap .i64 (x8 + 1))))
def ref06_Has.b1 (a_0 : List (S_ref06_Signed)) (a_1 : List UInt8) (a_2 : List UInt8) (x8 : Int) : Option (Flow Bool Int) := (if (decide (x8 < (a_0.length : Int))) = true then (if (0 : Int) ≤ x8 ∧ x8 < a_0.length then (if (decide (((a_0.getD x8.toNat default).f_Root) = a_1)) = true then ref06_Has.j1 x8 (decide (((a_0.getD x8.toNat default).f_Digest) = a_2)) else ref06_Has.j1 x8 false) else none) else some (.brk x8))
def ref06_Has (a_0 : List (S_ref06_Signed)) (a_1 : List UInt8) (a_2 : List UInt8) : Option Bool := ((loopN (fun s : Int => ref06_Has.b1 a_0 a_1 a_2 s) (((a_0.length : Int) - 0 : Int).toNat + 2) 0).bind fun cr => match cr with | .ret r => some r | .next y25 => some false)
theorem ref06_Has_ok {a_0 : List (S_ref06_Signed)} {a_1 : List UInt8} {a_2 : List UInt8} {r : Bool} (hF : ref06_Has a_0 a_1 a_2 = some r) : CallOk Tryd.prog KG 36 [(slVP S_ref06_Signed.ck a_0), (aggVP [bytesCk 32 a_1]), (aggVP [bytesCk 32 a_2])] [] (fun _ => []) (boolVP r) := by
  refine CallOk.intro 26 Tryd.func36 rfl Tryd.ntmps36 (Nat.le_of_ble_eq_true rfl) ?_
  intro c a w hG hn h
  unfold ref06_Has at hF
  change SatL c [.slot 0 (slVP S_ref06_Signed.ck a_0), .slot 1 (aggVP [bytesCk 32 a_1]), .slot 2 (aggVP [bytesCk 32 a_2])] a w at h
  refine regS mixed hn hG h [0, 504, 502, 503, 501] (ob [1] (op_box q0 (cells_agg _)) <| ob [2] (op_box q0 (cells_agg _)) <| ov [] (op_assign qb) .nil) fun b1 a w h => ?_
  refine wp_seq ?_
  refine regS mixed hn hG h [1, 2, 502, 501, 500, 3, 4] (ov [0] (op_move q0) <| ov [500] (op_len_sl Tryd.underlying65 q0) <| ov [] (op_move qi) .nil) fun _ a w h => ?_
  refine wp_block ?_
  obtain ⟨cr21, hl22, hF⟩ := bind_some hF
  refine wp_mono (wp_loopN (R := Bool) (S := Int) (fun s a w => SatL c [.slot 4 (lpVP (b1 0) 0), .slot 5 (lpVP (b1 1) 0), .slot 9 (slVP S_ref06_Signed.ck a_0), .slot 10 (intVP .i64 (a_0.length : Int)), .slot 11 (intVP .i64 s), .res (lb (b1 0) 23 [bytesCk 32 a_1]), .res (lb (b1 1) 23 [bytesCk 32 a_2])] a w) (fun res e a w => match res with | .next s => e = .exit 0 ∧ SatL c [] a w | .ret r => e = .ret ∧ RetOk Tryd.prog Tryd.f36 c (boolVP r) (fun _ => []) a w) ?_ _ 0 _ _ _ (h.sub [0, 1, 2, 3, 4, 5, 6] (by rfl)) hl22) ?_
  · clear hl22 hF h
    intro x8 a w o h hF
    change ref06_Has.b1 a_0 a_1 a_2 x8 = some o at hF
    unfold ref06_Has.b1 at hF
    change SatL c [.slot 4 (lpVP (b1 0) 0), .slot 5 (lpVP (b1 1) 0), .slot 9 (slVP S_ref06_Signed.ck a_0), .slot 10 (intVP .i64 (a_0.length : Int)), .slot 11 (intVP .i64 x8), .res (lb (b1 0) 23 [bytesCk 32 a_1]), .res (lb (b1 1) 23 [bytesCk 32 a_2])] a w at h
    refine regS mixed hn hG h [0, 1, 2, 3, 4, 500, 5, 6] (ov [4, 3] (op_bin bin_lss q0 q1) .nil) fun _ a w h => ?_
    refine wp_seq ?_
    refine cnd h hF 5 [0, 1, 2, 3, 4, 6, 7] [0, 1, 2, 3, 4, 6, 7] (fun hb15 hF h => ?_) (fun hb15 hF h => ?_)
    · refine wp_skip ?_
      show Code.wp Tryd.prog _ _ a w
      refine wp_seq ?_
      refine wp_block ?_
      obtain ⟨hv16, hF⟩ := ite_some hF
      refine regS mixed hn hG h [0, 1, 502, 2, 3, 4, 5, 6, 500] (ov [2, 4] (op_indexAddr_sl Tryd.underlying65 Tryd.sizeOf68 S_ref06_Signed.lens q0 q1 hv16) <| ov [500] (op_load_pp [bytesCk 32 ((a_0.getD x8.toNat default).f_Root), bytesCk 32 ((a_0.getD x8.toNat default).f_Digest)] [] Tryd.isAgg68 Tryd.sizeOf68 q0 rfl) <| ob [] (op_alloc Tryd.zeroValue68 z68) <| og [501, 502] [500] [.res 2 100000 (fun v1_ _ => (lb (v1_) 68 [bytesCk 32 ((a_0.getD x8.toNat default).f_Root), bytesCk 32 ((a_0.getD x8.toNat default).f_Digest)]))] (GOk.plain (op_store_w Tryd.sizeOf68 q0 q1 (cells_agg _)) rfl) .nil) fun b17 a w h => ?_
      refine wp_seq ?_
      refine wp_cut (fun a w => ∃ (x18 : Bool), ref06_Has.j1 x8 x18 = some o ∧ SatL c [.slot 4 (lpVP (b1 0) 0), .slot 5 (lpVP (b1 1) 0), .slot 9 (slVP S_ref06_Signed.ck a_0), .slot 10 (intVP .i64 (a_0.length : Int)), .slot 11 (intVP .i64 x8), .slot 24 (boolVP x18), .res (lb (b1 0) 23 [bytesCk 32 a_1]), .res (lb (b1 1) 23 [bytesCk 32 a_2])] a w) ?_ ?_
      · rcases Bool.eq_false_or_eq_true (decide (((a_0.getD x8.toNat default).f_Root) = a_1)) with hb20 | hb20
        · replace hF := tt_of hb20 hF
          refine reg mixed hn hG h [0, 1, 3, 4, 5, 500, 6, 7] (ov [2] (op_fieldAddr_lbm (p := (b17 2)) (n := 32) 0 0 Tryd.underlying68 rfl Tryd.sizeOf23 (by decide) q0 rfl) <| ov [500, 8] (op_load_lb [] [bytesCk 32 ((a_0.getD x8.toNat default).f_Root)] [bytesCk 32 ((a_0.getD x8.toNat default).f_Digest)] 1 Tryd.isAgg23 Tryd.sizeOf23 q0 rfl rfl rfl) <| ov [0, 6] (op_load_w 1 Tryd.isAgg23 Tryd.sizeOf23 q0) <| ov [501, 500] (op_bin (bin_aeql Tryd.underlying23 Tryd.underlying5 Tryd.type5 Tryd.sizeOf5 Tryd.isAgg5 Tryd.eqGuardType23) q0 q1) <| ov [500] (op_move q0) <| oe [500, 2] [] (GOk.on_eq hb20 rfl rfl rfl (op_fieldAddr_lbm (p := (b17 2)) (n := 32) 0 32 Tryd.underlying68 rfl Tryd.sizeOf23 (by decide) q0 rfl)) <| oe [501, 500, 8] [] (GOk.on_eq hb20 rfl rfl rfl (op_load_lb [bytesCk 32 ((a_0.getD x8.toNat default).f_Root)] [bytesCk 32 ((a_0.getD x8.toNat default).f_Digest)] [] 1 Tryd.isAgg23 Tryd.sizeOf23 q0 rfl rfl rfl)) <| oe [502, 1, 7] [] (GOk.on_eq hb20 rfl rfl rfl (op_load_w 1 Tryd.isAgg23 Tryd.sizeOf23 q0)) <| oe [503, 501, 500] [] (GOk.on_eq hb20 rfl rfl rfl (op_bin (bin_aeql Tryd.underlying23 Tryd.underlying5 Tryd.type5 Tryd.sizeOf5 Tryd.isAgg5 Tryd.eqGuardType23) q0 q1)) <| ov [504, 500] (op_pick_t hb20 q0 q1) .nil) fun _ a w h => ?_
          exact ⟨decide (((a_0.getD x8.toNat default).f_Digest) = a_2), hF, h.sub [0, 1, 2, 3, 4, 5, 6, 7] (by rfl)⟩
        · replace hF := ff_of hb20 hF
          refine reg mixed hn hG h [0, 1, 3, 4, 5, 500, 6, 7] (ov [2] (op_fieldAddr_lbm (p := (b17 2)) (n := 32) 0 0 Tryd.underlying68 rfl Tryd.sizeOf23 (by decide) q0 rfl) <| ov [500, 8] (op_load_lb [] [bytesCk 32 ((a_0.getD x8.toNat default).f_Root)] [bytesCk 32 ((a_0.getD x8.toNat default).f_Digest)] 1 Tryd.isAgg23 Tryd.sizeOf23 q0 rfl rfl rfl) <| ov [0, 6] (op_load_w 1 Tryd.isAgg23 Tryd.sizeOf23 q0) <| ov [501, 500] (op_bin (bin_aeql Tryd.underlying23 Tryd.underlying5 Tryd.type5 Tryd.sizeOf5 Tryd.isAgg5 Tryd.eqGuardType23) q0 q1) <| ov [500] (op_move q0) <| oe [500] [] (GOk.off_v (want := true) hb20 rfl rfl rfl rfl) <| oe [501] [] (GOk.off_v (want := true) hb20 rfl rfl rfl rfl) <| oe [502] [] (GOk.off_v (want := true) hb20 rfl rfl rfl rfl) <| oe [503] [] (GOk.off_v (want := true) hb20 rfl rfl rfl rfl) <| ov [504] (op_pick_f hb20 q0 qb) .nil) fun _ a w h => ?_
          exact ⟨false, hF, h.sub [0, 1, 2, 3, 4, 5, 6, 7] (by rfl)⟩
      · clear h hF
        rintro a w ⟨x18, hF, h⟩
        unfold ref06_Has.j1 at hF
        show Code.wp Tryd.prog _ _ a w
        refine cnd h hF 5 [] [0, 1, 2, 3, 4, 6, 7] (fun hb19 hF h => ?_) (fun hb19 hF h => ?_)
        · refine regS mixed hn hG h [500] (ov [] (op_assign qb) .nil) fun _ a w h => ?_
          refine wp_ret ?_
          obtain rfl := Option.some.inj hF
          exact ⟨ret_ne, rfl, ret1 h Tryd.results36 (r_tmp 0 rfl) [] [] rfl rfl rfl⟩
        · refine wp_skip ?_
          show Code.wp Tryd.prog _ _ a w
          refine reg mixed hn hG h [0, 1, 2, 3, 500, 5, 6] (ov [4] (op_bin bin_add q0 qi) <| od [500] 4 (op_move q0) .nil) fun _ a w h => ?_
          obtain rfl := Option.some.inj hF
          exact ⟨rfl, h.sub [0, 1, 2, 3, 4, 5, 6] (by rfl)⟩
    · refine wp_exit ?_
      obtain rfl := Option.some.inj hF
      exact ⟨exit_ne _, rfl, h.sub [] (by rfl)⟩
  · clear hl22
    intro e a w hq
    cases cr21 with
    | ret r23 =>
      obtain ⟨rfl, hq⟩ := hq
      obtain rfl := Option.some.inj hF
      exact ⟨.inl rfl, hq⟩
    | next y25 =>
      obtain ⟨rfl, h⟩ := hq
      change SatL c [] a w at h
      refine inBlock_at ?_
      show Code.wp Tryd.prog _ _ a w
      refine regS mixed hn hG h [500] (ov [] (op_assign qb) .nil) fun _ a w h => ?_
      refine wp_ret ?_
      obtain rfl := Option.some.inj hF
      exact ⟨.inl rfl, ret1 h Tryd.results36 (r_tmp 0 rfl) [] [] rfl rfl rfl⟩

def ref06_Note (a_0 : List (S_ref06_Signed)) (a_1 : List UInt8) (a_2 : List UInt8) : Option (List (S_ref06_Signed)) := (if ([] : List S_ref06_Signed).length + a_0.length ≤ mxl ∧ (([] : List S_ref06_Signed).length + a_0.length) * 64 ≤ 140737488355328 then ((ref06_Has a_0 a_1 a_2).bind fun r6 => (if r6 = true then some (([] : List S_ref06_Signed) ++ a_0) else (if (([] : List S_ref06_Signed) ++ a_0).length + [(S_ref06_Signed.mk a_1 a_2)].length ≤ mxl ∧ ((([] : List S_ref06_Signed) ++ a_0).length + [(S_ref06_Signed.mk a_1 a_2)].length) * 64 ≤ 140737488355328 then some ((([] : List S_ref06_Signed) ++ a_0) ++ [(S_ref06_Signed.mk a_1 a_2)]) else none))) else none)
theorem ref06_Note_ok {a_0 : List (S_ref06_Signed)} {a_1 : List UInt8} {a_2 : List UInt8} {r : (List (S_ref06_Signed))} (hF : ref06_Note a_0 a_1 a_2 = some r) : CallOk Tryd.prog KG 34 [(slVP S_ref06_Signed.ck a_0), (aggVP [bytesCk 32 a_1]), (aggVP [bytesCk 32 a_2])] [] (fun _ => []) (slVP S_ref06_Signed.ck r) := by
  refine CallOk.intro 22 Tryd.func34 rfl Tryd.ntmps34 (Nat.le_of_ble_eq_true rfl) ?_
  intro c a w hG hn h
  unfold ref06_Note at hF
  change SatL c [.slot 0 (slVP S_ref06_Signed.ck a_0), .slot 1 (aggVP [bytesCk 32 a_1]), .slot 2 (aggVP [bytesCk 32 a_2])] a w at h
  refine regS mixed hn hG h [0, 504, 502, 503, 501] (ob [1] (op_box q0 (cells_agg _)) <| ob [2] (op_box q0 (cells_agg _)) <| ov [] (op_assign (opc (ec _))) .nil) fun b1 a w h => ?_
  refine regS mixed hn hG h [0, 1, 2, 500, 3, 4] (ov [] (op_assign (opc (ec _))) .nil) fun _ a w h => ?_
  obtain ⟨q3, h⟩ : ∃ q3 : Value, SatL c [.slot 0 (slVP S_ref06_Signed.ck a_0), .slot 4 (lpVP (b1 0) 0), .slot 5 (lpVP (b1 1) 0), .slot 7 (eqVP q3), .res (lb (b1 0) 23 [bytesCk 32 a_1]), .res (lb (b1 1) 23 [bytesCk 32 a_2]), .res (acc q3 68 64 S_ref06_Signed.ck ([] : List S_ref06_Signed))] a w := ⟨.slice none 0 0, (h.nilacc 68 64 S_ref06_Signed.ck).sub [0, 1, 2, 3, 4, 5, 6] (by rfl)⟩
  obtain ⟨hv4, hF⟩ := ite_some hF
  refine regS mixed hn hG h [0, 1, 2, 500, 4, 5, 501] (ov [3] (op_move q0) <| ov [0] (op_move q0) <| og [501, 500] [6] [.slot 10 2 100000 (fun v1_ _ => (eqVP v1_)), .res 2 100000 (fun v1_ _ => (acc (v1_) 68 64 S_ref06_Signed.ck (([] : List S_ref06_Signed) ++ a_0)))] (GOk.plain (op_append (i := Tryd.t68) Tryd.underlying65 Tryd.type68 rfl S_ref06_Signed.lens (by decide) rfl q0 q1 hv4) rfl) <| og [501] [3] [.slot 7 2 100000 (fun v1_ _ => (eqVP v1_))] (fun {β} => (GOk.drop _ (GOk.plain (op_assign (V := (eqVP (β 2))) q0) rfl))) .nil) fun b5 a w h => ?_
  refine wp_seq ?_
  obtain ⟨r6, hr6, hF⟩ := bind_some hF
  refine regS mixed hn hG h [1, 2, 3, 500, 4, 5, 6] (ov [0] (op_move q0) <| ov [1, 4] (op_load_w 1 Tryd.isAgg23 Tryd.sizeOf23 q0) <| ov [2, 5] (op_load_w 1 Tryd.isAgg23 Tryd.sizeOf23 q0) <| oc [502, 501, 500] [] Tryd.call36 (ref06_Has_ok hr6) ⟨q0, q1, q2, trivial⟩ .nil) fun _ a w h => ?_
  refine cnd h hF 3 [2, 6] [0, 1, 2, 4, 5, 6] (fun hb7 hF h => ?_) (fun hb7 hF h => ?_)
  · refine regS mixed hn hG h [500, 1] (ov [0] (op_move q0) <| ov [500] (op_assign q0) .nil) fun _ a w h => ?_
    refine wp_ret ?_
    obtain rfl := Option.some.inj hF
    exact ⟨.inl rfl, ret1 h Tryd.results34 (r_acc 0 1 rfl rfl) [] [] rfl rfl rfl⟩
  · refine wp_skip ?_
    show Code.wp Tryd.prog _ _ a w
    obtain ⟨hv8, hF⟩ := ite_some hF
    refine regS mixed hn hG h [500, 501] (ov [2] (op_move q0) <| ov [0, 3] (op_load_w 1 Tryd.isAgg23 Tryd.sizeOf23 q0) <| ov [1, 4] (op_load_w 1 Tryd.isAgg23 Tryd.sizeOf23 q0) <| ov [501, 500] (op_build [(0, .tmp 17), (1, .tmp 18)] rfl bu68 z68 ⟨[], [bytesCk 32 (List.replicate 32 0)], [bytesCk 32 (List.replicate 32 0)], [bytesCk 32 a_1], _, rfl, rfl, rfl, q0, (cells_agg _), ⟨[bytesCk 32 a_1], [bytesCk 32 (List.replicate 32 0)], [], [bytesCk 32 a_2], _, rfl, rfl, rfl, q1, (cells_agg _), rfl⟩⟩) <| ov [500] (op_lit (xs := [.tmp 19]) (ys := [(S_ref06_Signed.mk a_1 a_2)]) _ rfl Tryd.underlying65 Tryd.sizeOf68 Tryd.zeroValue68 rfl rfl (by decide) (by decide) ⟨⟨_, q0, (cells_agg _)⟩, trivial⟩ S_ref06_Signed.lens) <| og [504, 500] [5] [.slot 21 5 100000 (fun v1_ _ => (eqVP v1_)), .res 5 100000 (fun v1_ _ => (acc (v1_) 68 64 S_ref06_Signed.ck ((([] : List S_ref06_Signed) ++ a_0) ++ [(S_ref06_Signed.mk a_1 a_2)])))] (GOk.plain (op_append (i := Tryd.t68) Tryd.underlying65 Tryd.type68 rfl S_ref06_Signed.lens (by decide) rfl q0 q1 hv8) rfl) <| og [501] [] [.slot 6 5 100000 (fun v1_ _ => (eqVP v1_))] (fun {β} => (GOk.plain (op_assign (V := (eqVP (β 5))) q0) rfl)) .nil) fun b9 a w h => ?_
    refine wp_ret ?_
    obtain rfl := Option.some.inj hF
    exact ⟨.inl rfl, ret1 h Tryd.results34 (r_acc 0 1 rfl rfl) [] [] rfl rfl rfl⟩

def law06_KeysBooks.b1 (a_0 : List (S_keys_Signed)) (x19 : Int) (x20 : List (S_ref06_Signed)) : Option (Flow Bool (Int × (List (S_ref06_Signed)))) := (if (decide (x19 < (a_0.length : Int))) = true then (if (0 : Int) ≤ x19 ∧ x19 < a_0.length then (if x20.length + [(S_ref06_Signed.mk ((a_0.getD x19.toNat default).f_Root) ((a_0.getD x19.toNat default).f_Digest))].length ≤ mxl ∧ (x20.length + [(S_ref06_Signed.mk ((a_0.getD x19.toNat default).f_Root) ((a_0.getD x19.toNat default).f_Digest))].length) * 64 ≤ 140737488355328 then some (.cont (IntKind.wrap .i64 (x19 + 1), x20 ++ [(S_ref06_Signed.mk ((a_0.getD x19.toNat default).f_Root) ((a_0.getD x19.toNat default).f_Digest))])) else none) else none) else some (.brk (x19, x20)))
def law06_KeysBooks.b2 (r41 : (List (S_keys_Signed))) (r42 : (List (S_ref06_Signed))) (x52 : Int) : Option (Flow Bool Int) := (if (decide (x52 < (r41.length : Int))) = true then (if (0 : Int) ≤ x52 ∧ x52 < r41.length then (if (0 : Int) ≤ x52 ∧ x52 < r42.length then (if (!((decide (((r41.getD x52.toNat default).f_Root) = ((r42.getD x52.toNat default).f_Root))) && ((decide (((r41.getD x52.toNat default).f_Digest) = ((r42.getD x52.toNat default).f_Digest))) && true))) = true then some (.ret false) else some (.cont (IntKind.wrap .i64 (x52 + 1)))) else none) else none) else some (.brk x52))
def law06_KeysBooks.j1 (r41 : (List (S_keys_Signed))) (r42 : (List (S_ref06_Signed))) (x46 : Bool) : Option Bool := (if x46 = true then some false else ((loopN (fun s : Int => law06_KeysBooks.b2 r41 r42 s) (((r41.length : Int) - 0 : Int).toNat + 2) 0).bind fun cr => match cr with | .ret r => some r | .next y66 => ((law06_awake).bind fun r67 => some r67)))
def law06_KeysBooks (a_0 : List (S_keys_Signed)) (a_1 : List UInt8) (a_2 : List UInt8) : Option Bool := ((law06_awake).bind fun r3 => (if (!r3) = true then some false else (if (decide ((200 : Int) < (a_0.length : Int))) = true then ((law06_awake).bind fun r6 => some r6) else ((loopN (fun s : Int × (List (S_ref06_Signed)) => law06_KeysBooks.b1 a_0 s.1 s.2) (((a_0.length : Int) - 0 : Int).toNat + 2) (0, [])).bind fun cr => match cr with | .ret r => some r | .next (y39, y40) => ((keys_Note a_0 a_1 a_2).bind fun r41 => ((ref06_Note y40 a_1 a_2).bind fun r42 => (if (!decide ((r41.length : Int) = (r42.length : Int))) = true then law06_KeysBooks.j1 r41 r42 true else ((keys_Has a_0 a_1 a_2).bind fun r43 => ((ref06_Has y40 a_1 a_2).bind fun r44 => (if (!(r43 == r44)) = true then law06_KeysBooks.j1 r41 r42 true else ((keys_Has r41 a_1 a_2).bind fun r45 => law06_KeysBooks.j1 r41 r42 (!r45))))))))))))
theorem law06_KeysBooks_ok {a_0 : List (S_keys_Signed)} {a_1 : List UInt8} {a_2 : List UInt8} {r : Bool} (hF : law06_KeysBooks a_0 a_1 a_2 = some r) : CallOk Tryd.prog KG 8 [(slVP S_keys_Signed.ck a_0), (aggVP [bytesCk 32 a_1]), (aggVP [bytesCk 32 a_2])] [] (fun _ => []) (boolVP r) := by
  refine CallOk.intro 77 Tryd.func8 rfl Tryd.ntmps8 (Nat.le_of_ble_eq_true rfl) ?_
  intro c a w hG hn h
  unfold law06_KeysBooks at hF
  change SatL c [.slot 0 (slVP S_keys_Signed.ck a_0), .slot 1 (aggVP [bytesCk 32 a_1]), .slot 2 (aggVP [bytesCk 32 a_2])] a w at h
  refine regS mixed hn hG h [0, 504, 502, 503, 501] (ob [1] (op_box q0 (cells_agg _)) <| ob [2] (op_box q0 (cells_agg _)) <| ov [] (op_assign qb) .nil) fun b1 a w h => ?_
  refine wp_seq ?_
  obtain ⟨r3, hr3, hF⟩ := bind_some hF
  refine regS mixed hn hG h [0, 1, 2, 500, 3, 4] (oc [] [] Tryd.call11 (law06_awake_ok hr3) trivial <| ov [500] (op_un (un_not _) q0) .nil) fun _ a w h => ?_
  refine cnd h hF 3 [] [0, 1, 2, 4, 5] (fun hb4 hF h => ?_) (fun hb4 hF h => ?_)
  · refine regS mixed hn hG h [500] (ov [] (op_assign qb) .nil) fun _ a w h => ?_
    refine wp_ret ?_
    obtain rfl := Option.some.inj hF
    exact ⟨.inl rfl, ret1 h Tryd.results8 (r_tmp 0 rfl) [] [] rfl rfl rfl⟩
  · refine wp_skip ?_
    show Code.wp Tryd.prog _ _ a w
    refine wp_seq ?_
    refine regS mixed hn hG h [0, 1, 2, 500, 3, 4] (ov [0] (op_move q0) <| ov [500] (op_len_sl Tryd.underlying64 q0) <| ov [500] (op_bin bin_gtr q0 qi) .nil) fun _ a w h => ?_
    refine cnd h hF 3 [] [0, 1, 2, 4, 5] (fun hb5 hF h => ?_) (fun hb5 hF h => ?_)
    · obtain ⟨r6, hr6, hF⟩ := bind_some hF
      refine regS mixed hn hG h [500] (oc [] [] Tryd.call11 (law06_awake_ok hr6) trivial <| ov [500] (op_assign q0) .nil) fun _ a w h => ?_
      refine wp_ret ?_
      obtain rfl := Option.some.inj hF
      exact ⟨.inl rfl, ret1 h Tryd.results8 (r_tmp 0 rfl) [] [] rfl rfl rfl⟩
    · refine wp_skip ?_
      show Code.wp Tryd.prog _ _ a w
      refine regS mixed hn hG h [0, 1, 2, 500, 3, 4] (ov [] (op_assign (opc (ec _))) .nil) fun _ a w h => ?_
      refine wp_seq ?_
      refine regS mixed hn hG h [0, 1, 2, 3, 502, 501, 500, 4, 5] (ov [0] (op_move q0) <| ov [500] (op_len_sl Tryd.underlying64 q0) <| ov [] (op_move qi) .nil) fun _ a w h => ?_
      refine wp_block ?_
      obtain ⟨q13, h⟩ : ∃ q13 : Value, SatL c [.slot 0 (slVP S_keys_Signed.ck a_0), .slot 4 (lpVP (b1 0) 0), .slot 5 (lpVP (b1 1) 0), .slot 7 (eqVP q13), .slot 19 (slVP S_keys_Signed.ck a_0), .slot 20 (intVP .i64 (a_0.length : Int)), .slot 21 (intVP .i64 0), .res (lb (b1 0) 23 [bytesCk 32 a_1]), .res (lb (b1 1) 23 [bytesCk 32 a_2]), .res (acc q13 68 64 S_ref06_Signed.ck [])] a w := ⟨.slice none 0 0, (h.nilacc 68 64 S_ref06_Signed.ck).sub [0, 1, 2, 3, 4, 5, 6, 7, 8, 9] (by rfl)⟩
      obtain ⟨cr35, hl36, hF⟩ := bind_some hF
      refine wp_mono (wp_loopN (R := Bool) (S := Int × (List (S_ref06_Signed))) (fun s a w => ∃ q21 : Value, SatL c [.slot 0 (slVP S_keys_Signed.ck a_0), .slot 4 (lpVP (b1 0) 0), .slot 5 (lpVP (b1 1) 0), .slot 7 (eqVP q21), .slot 19 (slVP S_keys_Signed.ck a_0), .slot 20 (intVP .i64 (a_0.length : Int)), .slot 21 (intVP .i64 s.1), .res (lb (b1 0) 23 [bytesCk 32 a_1]), .res (lb (b1 1) 23 [bytesCk 32 a_2]), .res (acc q21 68 64 S_ref06_Signed.ck s.2)] a w) (fun res e a w => match res with | .next s => e = .exit 0 ∧ ∃ q21 : Value, SatL c [.slot 0 (slVP S_keys_Signed.ck a_0), .slot 4 (lpVP (b1 0) 0), .slot 5 (lpVP (b1 1) 0), .slot 7 (eqVP q21), .res (lb (b1 0) 23 [bytesCk 32 a_1]), .res (lb (b1 1) 23 [bytesCk 32 a_2]), .res (acc q21 68 64 S_ref06_Signed.ck s.2)] a w | .ret r => e = .ret ∧ RetOk Tryd.prog Tryd.f8 c (boolVP r) (fun _ => []) a w) ?_ _ (0, []) _ _ _ ⟨q13, (h.sub [0, 1, 2, 3, 4, 5, 6, 7, 8, 9] (by rfl))⟩ hl36) ?_
      · clear hl36 hF h
        intro s a w o h hF
        obtain ⟨x19, x20⟩ := s
        obtain ⟨q21, h⟩ := h
        change law06_KeysBooks.b1 a_0 x19 x20 = some o at hF
        unfold law06_KeysBooks.b1 at hF
        change SatL c [.slot 0 (slVP S_keys_Signed.ck a_0), .slot 4 (lpVP (b1 0) 0), .slot 5 (lpVP (b1 1) 0), .slot 7 (eqVP q21), .slot 19 (slVP S_keys_Signed.ck a_0), .slot 20 (intVP .i64 (a_0.length : Int)), .slot 21 (intVP .i64 x19), .res (lb (b1 0) 23 [bytesCk 32 a_1]), .res (lb (b1 1) 23 [bytesCk 32 a_2]), .res (acc q21 68 64 S_ref06_Signed.ck x20)] a w at h
        refine regS mixed hn hG h [0, 1, 2, 3, 4, 5, 6, 500, 7, 8, 9] (ov [6, 5] (op_bin bin_lss q0 q1) .nil) fun _ a w h => ?_
        refine wp_seq ?_
        refine cnd h hF 7 [0, 1, 2, 3, 4, 5, 6, 8, 9, 10] [0, 1, 2, 3, 4, 5, 6, 8, 9, 10] (fun hb30 hF h => ?_) (fun hb30 hF h => ?_)
        · refine wp_skip ?_
          show Code.wp Tryd.prog _ _ a w
          refine wp_seq ?_
          refine wp_block ?_
          obtain ⟨hv31, hF⟩ := ite_some hF
          refine regS mixed hn hG h [0, 1, 2, 3, 502, 4, 5, 6, 7, 8, 9, 500] (ov [4, 6] (op_indexAddr_sl Tryd.underlying64 Tryd.sizeOf67 S_keys_Signed.lens q0 q1 hv31) <| ov [500] (op_load_pp [bytesCk 32 ((a_0.getD x19.toNat default).f_Root), bytesCk 32 ((a_0.getD x19.toNat default).f_Digest)] [] Tryd.isAgg67 Tryd.sizeOf67 q0 rfl) <| ob [] (op_alloc Tryd.zeroValue67 z67) <| og [501, 502] [500] [.res 2 100000 (fun v1_ _ => (lb (v1_) 67 [bytesCk 32 ((a_0.getD x19.toNat default).f_Root), bytesCk 32 ((a_0.getD x19.toNat default).f_Digest)]))] (GOk.plain (op_store_w Tryd.sizeOf67 q0 q1 (cells_agg _)) rfl) .nil) fun b32 a w h => ?_
          obtain ⟨hv33, hF⟩ := ite_some hF
          refine reg mixed hn hG h [0, 1, 2, 500, 5, 6, 7, 8, 9, 501] (ov [3] (op_move q0) <| ov [4, 11] (op_load_w 1 Tryd.isAgg67 Tryd.sizeOf67 q0) <| ov [500] (op_lit (xs := [.tmp 26]) (ys := [(S_ref06_Signed.mk ((a_0.getD x19.toNat default).f_Root) ((a_0.getD x19.toNat default).f_Digest))]) _ rfl Tryd.underlying65 Tryd.sizeOf68 Tryd.zeroValue68 rfl rfl (by decide) (by decide) ⟨⟨_, q0, (cells_agg _)⟩, trivial⟩ S_ref06_Signed.lens) <| og [502, 500] [10] [.slot 28 3 100000 (fun v1_ _ => (eqVP v1_)), .res 3 100000 (fun v1_ _ => (acc (v1_) 68 64 S_ref06_Signed.ck (x20 ++ [(S_ref06_Signed.mk ((a_0.getD x19.toNat default).f_Root) ((a_0.getD x19.toNat default).f_Digest))])))] (GOk.plain (op_append (i := Tryd.t68) Tryd.underlying65 Tryd.type68 rfl S_ref06_Signed.lens (by decide) rfl q0 q1 hv33) rfl) <| og [501] [3] [.slot 7 3 100000 (fun v1_ _ => (eqVP v1_))] (fun {β} => (GOk.drop _ (GOk.plain (op_assign (V := (eqVP (β 3))) q0) rfl))) .nil) fun b34 a w h => ?_
          show Code.wp Tryd.prog _ _ a w
          refine reg mixed hn hG h [0, 1, 2, 3, 4, 5, 500, 7, 8, 9] (ov [6] (op_bin bin_add q0 qi) <| od [500] 6 (op_move q0) .nil) fun _ a w h => ?_
          obtain rfl := Option.some.inj hF
          exact ⟨rfl, (b34 3), h.sub [0, 1, 2, 3, 4, 5, 6, 7, 8, 9] (by rfl)⟩
        · refine wp_exit ?_
          obtain rfl := Option.some.inj hF
          exact ⟨exit_ne _, rfl, q21, h.sub [0, 1, 2, 3, 7, 8, 9] (by rfl)⟩
      · clear hl36
        intro e a w hq
        cases cr35 with
        | ret r37 =>
          obtain ⟨rfl, hq⟩ := hq
          obtain rfl := Option.some.inj hF
          exact ⟨.inl rfl, hq⟩
        | next s38 =>
          obtain ⟨y39, y40⟩ := s38
          obtain ⟨rfl, q21, h⟩ := hq
          change SatL c [.slot 0 (slVP S_keys_Signed.ck a_0), .slot 4 (lpVP (b1 0) 0), .slot 5 (lpVP (b1 1) 0), .slot 7 (eqVP q21), .res (lb (b1 0) 23 [bytesCk 32 a_1]), .res (lb (b1 1) 23 [bytesCk 32 a_2]), .res (acc q21 68 64 S_ref06_Signed.ck y40)] a w at h
          refine inBlock_at ?_
          show Code.wp Tryd.prog _ _ a w
          obtain ⟨r41, hr41, hF⟩ := bind_some hF
          obtain ⟨r42, hr42, hF⟩ := bind_some hF
          refine regS mixed hn hG h [0, 1, 2, 3, 501, 500, 4, 5, 6] (ov [0] (op_move q0) <| ov [1, 4] (op_load_w 1 Tryd.isAgg23 Tryd.sizeOf23 q0) <| ov [2, 5] (op_load_w 1 Tryd.isAgg23 Tryd.sizeOf23 q0) <| oc [502, 501, 500] [] Tryd.call33 (keys_Note_ok hr41) ⟨q0, q1, q2, trivial⟩ <| ov [3] (op_move q0) <| ov [1, 4] (op_load_w 1 Tryd.isAgg23 Tryd.sizeOf23 q0) <| ov [2, 5] (op_load_w 1 Tryd.isAgg23 Tryd.sizeOf23 q0) <| oc [502, 6, 501, 500] [] Tryd.call34 (ref06_Note_ok hr42) ⟨(opacc 0 1 rfl rfl), q2, q3, trivial⟩ <| ov [504] (op_assign q0) <| ov [501] (op_assign q0) .nil) fun _ a w h => ?_
          refine wp_seq ?_
          refine wp_seq ?_
          refine wp_cut (fun a w => ∃ (x46 : Bool), law06_KeysBooks.j1 r41 r42 x46 = some r ∧ SatL c [.slot 10 (slVP S_keys_Signed.ck r41), .slot 11 (slVP S_ref06_Signed.ck r42), .slot 60 (boolVP x46)] a w) ?_ ?_
          · rcases Bool.eq_false_or_eq_true (!decide ((r41.length : Int) = (r42.length : Int))) with hb68 | hb68
            · replace hF := tt_of hb68 hF
              refine reg mixed hn hG h [4, 5, 500] (ov [4] (op_move q0) <| ov [500] (op_len_sl Tryd.underlying64 q0) <| ov [5] (op_move q0) <| ov [500] (op_len_sl Tryd.underlying65 q0) <| ov [502, 500] (op_bin bin_neq q0 q1) <| ov [500] (op_move q0) <| oe [500] [] (GOk.off_v (want := false) hb68 rfl rfl rfl rfl) <| oe [501] [] (GOk.off_v (want := false) hb68 rfl rfl rfl rfl) <| oe [502] [] (GOk.off_v (want := false) hb68 rfl rfl rfl rfl) <| oe [503] [] (GOk.off_v (want := false) hb68 rfl rfl rfl rfl) <| oe [504] [] (GOk.off_v (want := false) hb68 rfl rfl rfl rfl) <| oe [505] [] (GOk.off_v (want := false) hb68 rfl rfl rfl rfl) <| oe [506] [] (GOk.off_v (want := false) hb68 rfl rfl rfl rfl) <| oe [507] [] (GOk.off_v (want := false) hb68 rfl rfl rfl rfl) <| oe [508] [] (GOk.off_v (want := false) hb68 rfl rfl rfl rfl) <| ov [509] (op_pick_t hb68 q0 qb) <| ov [500] (op_move q0) <| oe [500] [] (GOk.off_v (want := false) rfl rfl rfl rfl rfl) <| oe [501] [] (GOk.off_v (want := false) rfl rfl rfl rfl rfl) <| oe [502] [] (GOk.off_v (want := false) rfl rfl rfl rfl rfl) <| oe [503] [] (GOk.off_v (want := false) rfl rfl rfl rfl rfl) <| oe [504] [] (GOk.off_v (want := false) rfl rfl rfl rfl rfl) <| ov [505] (op_pick_t rfl q0 qb) .nil) fun _ a w h => ?_
              exact ⟨true, hF, h.sub [0, 1, 2] (by rfl)⟩
            · replace hF := ff_of hb68 hF
              obtain ⟨r43, hr43, hF⟩ := bind_some hF
              obtain ⟨r44, hr44, hF⟩ := bind_some hF
              rcases Bool.eq_false_or_eq_true (!(r43 == r44)) with hb69 | hb69
              · replace hF := tt_of hb69 hF
                refine reg mixed hn hG h [4, 5, 500] (ov [4] (op_move q0) <| ov [500] (op_len_sl Tryd.underlying64 q0) <| ov [5] (op_move q0) <| ov [500] (op_len_sl Tryd.underlying65 q0) <| ov [502, 500] (op_bin bin_neq q0 q1) <| ov [500] (op_move q0) <| oe [500, 0] [] (GOk.on_eq hb68 rfl rfl rfl (op_move q0)) <| oe [501, 1, 6] [] (GOk.on_eq hb68 rfl rfl rfl (op_load_w 1 Tryd.isAgg23 Tryd.sizeOf23 q0)) <| oe [502, 2, 7] [] (GOk.on_eq hb68 rfl rfl rfl (op_load_w 1 Tryd.isAgg23 Tryd.sizeOf23 q0)) <| oe [503, 502, 501, 500] [] (GOk.on_eq hb68 rfl rfl rfl (op_call Tryd.call35 (keys_Has_ok hr43) ⟨q0, q1, q2, trivial⟩)) <| oe [504, 3] [] (GOk.on_eq hb68 rfl rfl rfl (op_move q0)) <| oe [505, 1, 6] [] (GOk.on_eq hb68 rfl rfl rfl (op_load_w 1 Tryd.isAgg23 Tryd.sizeOf23 q0)) <| oe [506, 2, 7] [] (GOk.on_eq hb68 rfl rfl rfl (op_load_w 1 Tryd.isAgg23 Tryd.sizeOf23 q0)) <| oe [507, 502, 8, 501, 500] [] (GOk.on_eq hb68 rfl rfl rfl (op_call Tryd.call36 (ref06_Has_ok hr44) ⟨(opacc 0 1 rfl rfl), q2, q3, trivial⟩)) <| oe [508, 504, 500] [] (GOk.on_eq hb68 rfl rfl rfl (op_bin (bin_bneq Tryd.underlying4) q0 q1)) <| ov [509, 500] (op_pick_f hb68 q0 q1) <| ov [500] (op_move q0) <| oe [500] [] (GOk.off_v (want := false) hb69 rfl rfl rfl rfl) <| oe [501] [] (GOk.off_v (want := false) hb69 rfl rfl rfl rfl) <| oe [502] [] (GOk.off_v (want := false) hb69 rfl rfl rfl rfl) <| oe [503] [] (GOk.off_v (want := false) hb69 rfl rfl rfl rfl) <| oe [504] [] (GOk.off_v (want := false) hb69 rfl rfl rfl rfl) <| ov [505] (op_pick_t hb69 q0 qb) .nil) fun _ a w h => ?_
                exact ⟨true, hF, h.sub [0, 1, 2] (by rfl)⟩
              · replace hF := ff_of hb69 hF
                obtain ⟨r45, hr45, hF⟩ := bind_some hF
                refine reg mixed hn hG h [4, 5, 500] (ov [4] (op_move q0) <| ov [500] (op_len_sl Tryd.underlying64 q0) <| ov [5] (op_move q0) <| ov [500] (op_len_sl Tryd.underlying65 q0) <| ov [502, 500] (op_bin bin_neq q0 q1) <| ov [500] (op_move q0) <| oe [500, 0] [] (GOk.on_eq hb68 rfl rfl rfl (op_move q0)) <| oe [501, 1, 6] [] (GOk.on_eq hb68 rfl rfl rfl (op_load_w 1 Tryd.isAgg23 Tryd.sizeOf23 q0)) <| oe [502, 2, 7] [] (GOk.on_eq hb68 rfl rfl rfl (op_load_w 1 Tryd.isAgg23 Tryd.sizeOf23 q0)) <| oe [503, 502, 501, 500] [] (GOk.on_eq hb68 rfl rfl rfl (op_call Tryd.call35 (keys_Has_ok hr43) ⟨q0, q1, q2, trivial⟩)) <| oe [504, 3] [] (GOk.on_eq hb68 rfl rfl rfl (op_move q0)) <| oe [505, 1, 6] [] (GOk.on_eq hb68 rfl rfl rfl (op_load_w 1 Tryd.isAgg23 Tryd.sizeOf23 q0)) <| oe [506, 2, 7] [] (GOk.on_eq hb68 rfl rfl rfl (op_load_w 1 Tryd.isAgg23 Tryd.sizeOf23 q0)) <| oe [507, 502, 8, 501, 500] [] (GOk.on_eq hb68 rfl rfl rfl (op_call Tryd.call36 (ref06_Has_ok hr44) ⟨(opacc 0 1 rfl rfl), q2, q3, trivial⟩)) <| oe [508, 504, 500] [] (GOk.on_eq hb68 rfl rfl rfl (op_bin (bin_bneq Tryd.underlying4) q0 q1)) <| ov [509, 500] (op_pick_f hb68 q0 q1) <| ov [500] (op_move q0) <| oe [500, 4] [] (GOk.on_eq hb69 rfl rfl rfl (op_move q0)) <| oe [501, 1, 6] [] (GOk.on_eq hb69 rfl rfl rfl (op_load_w 1 Tryd.isAgg23 Tryd.sizeOf23 q0)) <| oe [502, 2, 7] [] (GOk.on_eq hb69 rfl rfl rfl (op_load_w 1 Tryd.isAgg23 Tryd.sizeOf23 q0)) <| oe [503, 502, 501, 500] [] (GOk.on_eq hb69 rfl rfl rfl (op_call Tryd.call35 (keys_Has_ok hr45) ⟨q0, q1, q2, trivial⟩)) <| oe [504, 500] [] (GOk.on_eq hb69 rfl rfl rfl (op_un (un_not _) q0)) <| ov [505, 500] (op_pick_f hb69 q0 q1) .nil) fun _ a w h => ?_
                exact ⟨!r45, hF, h.sub [0, 1, 2] (by rfl)⟩
          · clear h hF
            rintro a w ⟨x46, hF, h⟩
            unfold law06_KeysBooks.j1 at hF
            show Code.wp Tryd.prog _ _ a w
            refine cnd h hF 2 [] [0, 1] (fun hb47 hF h => ?_) (fun hb47 hF h => ?_)
            · refine regS mixed hn hG h [500] (ov [] (op_assign qb) .nil) fun _ a w h => ?_
              refine wp_ret ?_
              obtain rfl := Option.some.inj hF
              exact ⟨.inl rfl, ret1 h Tryd.results8 (r_tmp 0 rfl) [] [] rfl rfl rfl⟩
            · refine wp_skip ?_
              show Code.wp Tryd.prog _ _ a w
              refine wp_seq ?_
              refine regS mixed hn hG h [0, 1, 501, 500] (ov [0] (op_move q0) <| ov [500] (op_len_sl Tryd.underlying64 q0) <| ov [] (op_move qi) .nil) fun _ a w h => ?_
              refine wp_block ?_
              obtain ⟨cr62, hl63, hF⟩ := bind_some hF
              refine wp_mono (wp_loopN (R := Bool) (S := Int) (fun s a w => SatL c [.slot 10 (slVP S_keys_Signed.ck r41), .slot 11 (slVP S_ref06_Signed.ck r42), .slot 62 (intVP .i64 (r41.length : Int)), .slot 63 (intVP .i64 s)] a w) (fun res e a w => match res with | .next s => e = .exit 2 ∧ SatL c [] a w | .ret r => e = .ret ∧ RetOk Tryd.prog Tryd.f8 c (boolVP r) (fun _ => []) a w) ?_ _ 0 _ _ _ (h.sub [0, 1, 2, 3] (by rfl)) hl63) ?_
              · clear hl63 hF h
                intro x52 a w o h hF
                change law06_KeysBooks.b2 r41 r42 x52 = some o at hF
                unfold law06_KeysBooks.b2 at hF
                change SatL c [.slot 10 (slVP S_keys_Signed.ck r41), .slot 11 (slVP S_ref06_Signed.ck r42), .slot 62 (intVP .i64 (r41.length : Int)), .slot 63 (intVP .i64 x52)] a w at h
                refine regS mixed hn hG h [0, 1, 2, 3, 500] (ov [3, 2] (op_bin bin_lss q0 q1) .nil) fun _ a w h => ?_
                refine wp_seq ?_
                refine cnd h hF 4 [0, 1, 2, 3] [0, 1, 2, 3] (fun hb58 hF h => ?_) (fun hb58 hF h => ?_)
                · refine wp_skip ?_
                  show Code.wp Tryd.prog _ _ a w
                  refine wp_seq ?_
                  refine wp_block ?_
                  refine regS mixed hn hG h [0, 1, 500, 2, 3] (ov [3] (op_move q0) <| ov [500] (op_assign q0) .nil) fun _ a w h => ?_
                  obtain ⟨hv59, hF⟩ := ite_some hF
                  obtain ⟨hv60, hF⟩ := ite_some hF
                  refine regS mixed hn hG h [0, 1, 3, 4, 500] (ov [0] (op_move q0) <| ov [2] (op_move q0) <| ov [501, 500] (op_indexAddr_sl Tryd.underlying64 Tryd.sizeOf67 S_keys_Signed.lens q0 q1 hv59) <| ov [500] (op_load_pp [bytesCk 32 ((r41.getD x52.toNat default).f_Root), bytesCk 32 ((r41.getD x52.toNat default).f_Digest)] [] Tryd.isAgg67 Tryd.sizeOf67 q0 rfl) <| ov [1] (op_move q0) <| ov [2] (op_move q0) <| ov [501, 500] (op_indexAddr_sl Tryd.underlying65 Tryd.sizeOf68 S_ref06_Signed.lens q0 q1 hv60) <| ov [500] (op_load_pp [bytesCk 32 ((r42.getD x52.toNat default).f_Root), bytesCk 32 ((r42.getD x52.toNat default).f_Digest)] [] Tryd.isAgg68 Tryd.sizeOf68 q0 rfl) <| ov [504, 500] (op_bin (bin_stneq (d := 2) Tryd.underlying68 (by kernel_rfl) Tryd.eqGuardType68 (.cons (L := [bytesCk 32 ((r41.getD x52.toNat default).f_Root)]) (M := [bytesCk 32 ((r42.getD x52.toNat default).f_Root)]) (by decide) rfl (eqc_bytes Tryd.underlying23 Tryd.underlying5 Tryd.type5 Tryd.sizeOf5 Tryd.isAgg5 Tryd.isAgg23 Tryd.sizeOf23) rfl rfl (.cons (L := [bytesCk 32 ((r41.getD x52.toNat default).f_Digest)]) (M := [bytesCk 32 ((r42.getD x52.toNat default).f_Digest)]) (by decide) rfl (eqc_bytes Tryd.underlying23 Tryd.underlying5 Tryd.type5 Tryd.sizeOf5 Tryd.isAgg5 Tryd.isAgg23 Tryd.sizeOf23) rfl rfl .nil))) q0 q1) .nil) fun _ a w h => ?_
                  refine cnd h hF 4 [] [0, 1, 2, 3] (fun hb61 hF h => ?_) (fun hb61 hF h => ?_)
                  · refine regS mixed hn hG h [500] (ov [] (op_assign qb) .nil) fun _ a w h => ?_
                    refine wp_ret ?_
                    obtain rfl := Option.some.inj hF
                    exact ⟨ret_ne, rfl, ret1 h Tryd.results8 (r_tmp 0 rfl) [] [] rfl rfl rfl⟩
                  · refine wp_skip ?_
                    show Code.wp Tryd.prog _ _ a w
                    refine reg mixed hn hG h [0, 1, 2, 500] (ov [3] (op_bin bin_add q0 qi) <| od [500] 3 (op_move q0) .nil) fun _ a w h => ?_
                    obtain rfl := Option.some.inj hF
                    exact ⟨rfl, h.sub [0, 1, 2, 3] (by rfl)⟩
                · refine wp_exit ?_
                  obtain rfl := Option.some.inj hF
                  exact ⟨exit_ne _, rfl, h.sub [] (by rfl)⟩
              · clear hl63
                intro e a w hq
                cases cr62 with
                | ret r64 =>
                  obtain ⟨rfl, hq⟩ := hq
                  obtain rfl := Option.some.inj hF
                  exact ⟨.inl rfl, hq⟩
                | next y66 =>
                  obtain ⟨rfl, h⟩ := hq
                  change SatL c [] a w at h
                  refine inBlock_at ?_
                  show Code.wp Tryd.prog _ _ a w
                  obtain ⟨r67, hr67, hF⟩ := bind_some hF
                  refine regS mixed hn hG h [500] (oc [] [] Tryd.call11 (law06_awake_ok hr67) trivial <| ov [500] (op_assign q0) .nil) fun _ a w h => ?_
                  refine wp_ret ?_
                  obtain rfl := Option.some.inj hF
                  exact ⟨.inl rfl, ret1 h Tryd.results8 (r_tmp 0 rfl) [] [] rfl rfl rfl⟩
end Go.Proofs.YtamnmljgcmbliaaDoor
