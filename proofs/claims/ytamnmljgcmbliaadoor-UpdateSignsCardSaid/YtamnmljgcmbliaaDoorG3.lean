/- The functions' Lean twins and contracts, printed by this session's own program: part 3. -/
import Derived.Test.YtamnmljgcmbliaaDoorG2
namespace Go.Proofs.YtamnmljgcmbliaaDoor
open Go Go.RowKit Go.Proofs
set_option maxRecDepth 100000
set_option maxHeartbeats 4000000
set_option linter.unusedVariables false
def ref03_Big.b1 (x4 : Int) (x5 : Int) (x6 : List UInt8) : Option (Flow (List UInt8) (Int × Int × (List UInt8))) := (if (decide ((0 : Int) ≤ x5)) = true then (if (0 : Int) ≤ x5 ∧ x5 < 8 then some (.cont (IntKind.wrap .u64 (x4.tdiv 256), IntKind.wrap .i64 (x5 - 1), x6.set x5.toNat (u8of (IntKind.wrap .u8 (x4.tmod 256))))) else none) else some (.brk (x4, x5, x6)))
def ref03_Big (a_0 : Int) (a_1 : Int) : Option (List UInt8) := ((loopN (fun s : Int × Int × (List UInt8) => ref03_Big.b1 s.1 s.2.1 s.2.2) (((IntKind.wrap .i64 (a_1 - 1)) - 0 : Int).toNat + 2) (a_0, IntKind.wrap .i64 (a_1 - 1), (List.replicate 8 0))).bind fun cr => match cr with | .ret r => some r | .next (y18, y19, y20) => (if (0 : Int) ≤ 0 ∧ (0 : Int) ≤ a_1 ∧ a_1 ≤ 8 ∧ (0 : Int) < 8 then (if (a_1 : Int).toNat - (0 : Int).toNat ≤ 8 then some (y20.take ((a_1 : Int).toNat - (0 : Int).toNat)) else none) else none))
theorem ref03_Big_ok {a_0 : Int} {a_1 : Int} {r : (List UInt8)} (hF : ref03_Big a_0 a_1 = some r) : CallOk Tryd.prog KG 60 [(intVP .u64 a_0), (intVP .i64 a_1)] [] (fun _ => []) (strVP r) := by
  refine CallOk.intro 23 Tryd.func60 rfl Tryd.ntmps60 (Nat.le_of_ble_eq_true rfl) ?_
  intro c a w hG hn h
  unfold ref03_Big at hF
  change SatL c [.slot 0 (intVP .u64 a_0), .slot 1 (intVP .i64 a_1)] a w at h
  refine regS mixed hn hG h [0, 1] (ov [] (op_assign (opc (sc _ (by decide)))) .nil) fun _ a w h => ?_
  refine regS mixed hn hG h [0, 1, 501, 500] (ob [] (op_alloc Tryd.zeroValue135 z135) .nil) fun b1 a w h => ?_
  refine wp_seq ?_
  refine regS mixed hn hG h [0, 1, 2, 500, 3] (ov [1] (op_move q0) <| ov [500] (op_bin bin_sub q0 qi) <| ov [500] (op_assign q0) .nil) fun _ a w h => ?_
  refine wp_block ?_
  obtain ⟨cr14, hl15, hF⟩ := bind_some hF
  refine wp_mono (wp_loopN (R := (List UInt8)) (S := Int × Int × (List UInt8)) (fun s a w => SatL c [.slot 0 (intVP .u64 s.1), .slot 1 (intVP .i64 a_1), .slot 5 (lpVP (b1 0) 0), .slot 6 (intVP .i64 s.2.1), .res (lb (b1 0) 135 [bytesCk 8 s.2.2])] a w) (fun res e a w => match res with | .next s => e = .exit 0 ∧ SatL c [.slot 1 (intVP .i64 a_1), .slot 5 (lpVP (b1 0) 0), .res (lb (b1 0) 135 [bytesCk 8 s.2.2])] a w | .ret r => e = .ret ∧ RetOk Tryd.prog Tryd.f60 c (strVP r) (fun _ => []) a w) ?_ _ (a_0, IntKind.wrap .i64 (a_1 - 1), (List.replicate 8 0)) _ _ _ (h.sub [0, 1, 2, 3, 4] (by rfl)) hl15) ?_
  · clear hl15 hF h
    intro s a w o h hF
    obtain ⟨x4, x5, x6⟩ := s
    change ref03_Big.b1 x4 x5 x6 = some o at hF
    unfold ref03_Big.b1 at hF
    change SatL c [.slot 0 (intVP .u64 x4), .slot 1 (intVP .i64 a_1), .slot 5 (lpVP (b1 0) 0), .slot 6 (intVP .i64 x5), .res (lb (b1 0) 135 [bytesCk 8 x6])] a w at h
    refine wp_seq ?_
    refine regS mixed hn hG h [0, 1, 2, 3, 500, 4] (ov [3] (op_move q0) <| ov [500] (op_bin bin_geq q0 qi) .nil) fun _ a w h => ?_
    refine cnd h hF 4 [0, 1, 2, 3, 5] [0, 1, 2, 3, 5] (fun hb12 hF h => ?_) (fun hb12 hF h => ?_)
    · refine wp_skip ?_
      show Code.wp Tryd.prog _ _ a w
      refine wp_seq ?_
      refine wp_block ?_
      obtain ⟨hv13, hF⟩ := ite_some hF
      refine regS mixed hn hG h [0, 1, 2, 3, 500] (ov [3] (op_move q0) <| ov [0] (op_move q0) <| ov [500] (op_bin (bin_rem (by decide)) q0 qi) <| ov [500] (op_convert_int Tryd.underlying114 Tryd.underlying5 q0) <| ov [2, 503] (op_indexAddr_lb Tryd.underlying135 Tryd.sizeOf5 q0 q1 hv13) <| ou [500, 501] 4 (op_store_lbB (i := x5) [] [] Tryd.sizeOf5 q0 q1 rfl hv13) .nil) fun _ a w h => ?_
      refine reg mixed hn hG h [500, 1, 2, 3, 4] (ov [0] (op_move q0) <| ov [500] (op_bin (bin_quo (by decide)) q0 qi) <| od [500] 0 (op_assign q0) .nil) fun _ a w h => ?_
      show Code.wp Tryd.prog _ _ a w
      refine reg mixed hn hG h [0, 1, 2, 500, 4] (ov [3] (op_move q0) <| ov [500] (op_bin bin_sub q0 qi) <| od [500] 3 (op_assign q0) .nil) fun _ a w h => ?_
      obtain rfl := Option.some.inj hF
      exact ⟨rfl, h.sub [0, 1, 2, 3, 4] (by rfl)⟩
    · refine wp_exit ?_
      obtain rfl := Option.some.inj hF
      exact ⟨exit_ne _, rfl, h.sub [1, 2, 4] (by rfl)⟩
  · clear hl15
    intro e a w hq
    cases cr14 with
    | ret r16 =>
      obtain ⟨rfl, hq⟩ := hq
      obtain rfl := Option.some.inj hF
      exact ⟨.inl rfl, hq⟩
    | next s17 =>
      obtain ⟨y18, y19, y20⟩ := s17
      obtain ⟨rfl, h⟩ := hq
      change SatL c [.slot 1 (intVP .i64 a_1), .slot 5 (lpVP (b1 0) 0), .res (lb (b1 0) 135 [bytesCk 8 y20])] a w at h
      refine inBlock_at ?_
      show Code.wp Tryd.prog _ _ a w
      obtain ⟨hv21, hF⟩ := ite_some hF
      obtain ⟨hv22, hF⟩ := ite_some hF
      refine regS mixed hn hG h [500] (ov [0] (op_move q0) <| ov [1, 500] (op_slice_lb (a := 0) (b := a_1) Tryd.underlying135 Tryd.sizeOf5 q0 rfl ⟨_, q1⟩ hv21) <| ov [500, 2] (op_str_lsl [] [] 1 Tryd.underlying129 Tryd.underlying5 Tryd.underlying9 q0 rfl rfl hv22 (by decide)) <| ov [500] (op_assign q0) .nil) fun _ a w h => ?_
      refine wp_ret ?_
      obtain rfl := Option.some.inj hF
      exact ⟨.inl rfl, ret1 h Tryd.results60 (r_tmp 0 rfl) [] [] rfl rfl rfl⟩

def ref03_Text (a_0 : List UInt8) : Option (List UInt8) := ((ref03_Big (IntKind.wrap .u64 (a_0.length : Int)) 4).bind fun r1 => (if r1.length + a_0.length ≤ mxl then some (r1 ++ a_0) else none))
theorem ref03_Text_ok {a_0 : List UInt8} {r : (List UInt8)} (hF : ref03_Text a_0 = some r) : CallOk Tryd.prog KG 89 [(strVP a_0)] [] (fun _ => []) (strVP r) := by
  refine CallOk.intro 9 Tryd.func89 rfl Tryd.ntmps89 (Nat.le_of_ble_eq_true rfl) ?_
  intro c a w hG hn h
  unfold ref03_Text at hF
  change SatL c [.slot 0 (strVP a_0)] a w at h
  refine regS mixed hn hG h [0] (ov [] (op_assign (opc (sc _ (by decide)))) .nil) fun _ a w h => ?_
  obtain ⟨r1, hr1, hF⟩ := bind_some hF
  obtain ⟨hv2, hF⟩ := ite_some hF
  refine regS mixed hn hG h [500] (ov [0] (op_move q0) <| ov [500] (op_len_str Tryd.underlying9 q0) <| ov [500] (op_convert_int Tryd.underlying3 Tryd.underlying114 q0) <| oc [500] [] Tryd.call60 (ref03_Big_ok hr1) ⟨q0, qi, trivial⟩ <| ov [0] (op_move q0) <| ov [501, 500] (op_bin (bin_sadd hv2) q0 q1) <| ov [500] (op_assign q0) .nil) fun _ a w h => ?_
  refine wp_ret ?_
  obtain rfl := Option.some.inj hF
  exact ⟨.inl rfl, ret1 h Tryd.results89 (r_tmp 0 rfl) [] [] rfl rfl rfl⟩

def ref04_Input.b1 (a_1 : List (List UInt8)) (x5 : List UInt8) (x6 : Int) : Option (Flow (List UInt8) ((List UInt8) × Int)) := (if (decide (x6 < (a_1.length : Int))) = true then (if (0 : Int) ≤ x6 ∧ x6 < a_1.length then ((ref03_Text (a_1.getD x6.toNat default)).bind fun r15 => (if x5.length + r15.length ≤ mxl then some (.cont (x5 ++ r15, IntKind.wrap .i64 (x6 + 1))) else none)) else none) else some (.brk (x5, x6)))
def ref04_Input (a_0 : Int) (a_1 : List (List UInt8)) : Option (List UInt8) := ((loopN (fun s : (List UInt8) × Int => ref04_Input.b1 a_1 s.1 s.2) (((a_1.length : Int) - 0 : Int).toNat + 2) ([u8of a_0], 0)).bind fun cr => match cr with | .ret r => some r | .next (y21, y22) => some y21)
theorem ref04_Input_ok {a_0 : Int} {a_1 : List (List UInt8)} {r : (List UInt8)} (hF : ref04_Input a_0 a_1 = some r) : CallOk Tryd.prog KG 77 [(intVP .u8 a_0), (slVP strC a_1)] [] (fun _ => []) (strVP r) := by
  refine CallOk.intro 23 Tryd.func77 rfl Tryd.ntmps77 (Nat.le_of_ble_eq_true rfl) ?_
  intro c a w hG hn h
  unfold ref04_Input at hF
  change SatL c [.slot 0 (intVP .u8 a_0), .slot 1 (slVP strC a_1)] a w at h
  refine regS mixed hn hG h [0, 1] (ov [] (op_assign (opc (sc _ (by decide)))) .nil) fun _ a w h => ?_
  refine regS mixed hn hG h [1, 500] (ov [0] (op_move q0) <| ov [500] (op_lit (xs := [.tmp 8]) (ys := [u8of a_0]) _ rfl Tryd.underlying129 Tryd.sizeOf5 Tryd.zeroValue5 rfl rfl (by decide) (by decide) ⟨⟨_, q0, (cells_u8 _)⟩, trivial⟩ lens_bC) <| ov [500] (op_conv_sl_str Tryd.underlying129 Tryd.underlying5 Tryd.underlying9 q0) <| ov [500] (op_assign q0) .nil) fun _ a w h => ?_
  refine wp_seq ?_
  refine regS mixed hn hG h [1, 502, 501, 500] (ov [0] (op_move q0) <| ov [500] (op_len_sl Tryd.underlying101 q0) <| ov [] (op_move qi) .nil) fun _ a w h => ?_
  refine wp_block ?_
  obtain ⟨cr17, hl18, hF⟩ := bind_some hF
  refine wp_mono (wp_loopN (R := (List UInt8)) (S := (List UInt8) × Int) (fun s a w => SatL c [.slot 5 (strVP s.1), .slot 11 (slVP strC a_1), .slot 12 (intVP .i64 (a_1.length : Int)), .slot 13 (intVP .i64 s.2)] a w) (fun res e a w => match res with | .next s => e = .exit 0 ∧ SatL c [.slot 5 (strVP s.1)] a w | .ret r => e = .ret ∧ RetOk Tryd.prog Tryd.f77 c (strVP r) (fun _ => []) a w) ?_ _ ([u8of a_0], 0) _ _ _ (h.sub [0, 1, 2, 3] (by rfl)) hl18) ?_
  · clear hl18 hF h
    intro s a w o h hF
    obtain ⟨x5, x6⟩ := s
    change ref04_Input.b1 a_1 x5 x6 = some o at hF
    unfold ref04_Input.b1 at hF
    change SatL c [.slot 5 (strVP x5), .slot 11 (slVP strC a_1), .slot 12 (intVP .i64 (a_1.length : Int)), .slot 13 (intVP .i64 x6)] a w at h
    refine regS mixed hn hG h [0, 1, 2, 3, 500] (ov [3, 2] (op_bin bin_lss q0 q1) .nil) fun _ a w h => ?_
    refine wp_seq ?_
    refine cnd h hF 4 [0, 1, 2, 3] [0, 1, 2, 3] (fun hb13 hF h => ?_) (fun hb13 hF h => ?_)
    · refine wp_skip ?_
      show Code.wp Tryd.prog _ _ a w
      refine wp_seq ?_
      refine wp_block ?_
      obtain ⟨hv14, hF⟩ := ite_some hF
      refine regS mixed hn hG h [0, 500, 1, 2, 3] (ov [1, 3] (op_indexAddr_sl Tryd.underlying101 Tryd.sizeOf9 lens_strC q0 q1 hv14) <| ov [500] (op_load_pp1 [] Tryd.isAgg9 q0) <| ov [500] (op_assign q0) .nil) fun _ a w h => ?_
      obtain ⟨r15, hr15, hF⟩ := bind_some hF
      obtain ⟨hv16, hF⟩ := ite_some hF
      refine reg mixed hn hG h [500, 2, 3, 4] (ov [0] (op_move q0) <| ov [1] (op_move q0) <| oc [500] [] Tryd.call89 (ref03_Text_ok hr15) ⟨q0, trivial⟩ <| ov [502, 500] (op_bin (bin_sadd hv16) q0 q1) <| od [500] 0 (op_assign q0) .nil) fun _ a w h => ?_
      show Code.wp Tryd.prog _ _ a w
      refine reg mixed hn hG h [0, 1, 2, 500] (ov [3] (op_bin bin_add q0 qi) <| od [500] 3 (op_move q0) .nil) fun _ a w h => ?_
      obtain rfl := Option.some.inj hF
      exact ⟨rfl, h.sub [0, 1, 2, 3] (by rfl)⟩
    · refine wp_exit ?_
      obtain rfl := Option.some.inj hF
      exact ⟨exit_ne _, rfl, h.sub [0] (by rfl)⟩
  · clear hl18
    intro e a w hq
    cases cr17 with
    | ret r19 =>
      obtain ⟨rfl, hq⟩ := hq
      obtain rfl := Option.some.inj hF
      exact ⟨.inl rfl, hq⟩
    | next s20 =>
      obtain ⟨y21, y22⟩ := s20
      obtain ⟨rfl, h⟩ := hq
      change SatL c [.slot 5 (strVP y21)] a w at h
      refine inBlock_at ?_
      show Code.wp Tryd.prog _ _ a w
      refine regS mixed hn hG h [500] (ov [0] (op_move q0) <| ov [500] (op_assign q0) .nil) fun _ a w h => ?_
      refine wp_ret ?_
      obtain rfl := Option.some.inj hF
      exact ⟨.inl rfl, ret1 h Tryd.results77 (r_tmp 0 rfl) [] [] rfl rfl rfl⟩

def ref01_constants : Option (List Int) := some ([1116352408, 1899447441, 3049323471, 3921009573, 961987163, 1508970993, 2453635748, 2870763221, 3624381080, 310598401, 607225278, 1426881987, 1925078388, 2162078206, 2614888103, 3248222580, 3835390401, 4022224774, 264347078, 604807628, 770255983, 1249150122, 1555081692, 1996064986, 2554220882, 2821834349, 2952996808, 3210313671, 3336571891, 3584528711, 113926993, 338241895, 666307205, 773529912, 1294757372, 1396182291, 1695183700, 1986661051, 2177026350, 2456956037, 2730485921, 2820302411, 3259730800, 3345764771, 3516065817, 3600352804, 4094571909, 275423344, 430227734, 506948616, 659060556, 883997877, 958139571, 1322822218, 1537002063, 1747873779, 1955562222, 2024104815, 2227730452, 2361852424, 2428436474, 2756734187, 3204031479, 3329325298] ++ List.replicate (64 - 64) 0)
theorem ref01_constants_ok {r : (List Int)} (hF : ref01_constants = some r) : CallOk Tryd.prog KG 105 [] [] (fun _ => []) (aggVP [intsCk .u32 64 r]) := by
  refine CallOk.intro 2 Tryd.func105 rfl Tryd.ntmps105 (Nat.le_of_ble_eq_true rfl) ?_
  intro c a w hG hn h
  unfold ref01_constants at hF
  change SatL c [] a w at h
  refine regS mixed hn hG h [501, 500] (ob [] (op_alloc Tryd.zeroValue170 z170) .nil) fun b1 a w h => ?_
  refine regS mixed hn hG h [0, 500] (ov [] (op_buildI (xs := [.const (.int .u32 1116352408), .const (.int .u32 1899447441), .const (.int .u32 3049323471), .const (.int .u32 3921009573), .const (.int .u32 961987163), .const (.int .u32 1508970993), .const (.int .u32 2453635748), .const (.int .u32 2870763221), .const (.int .u32 3624381080), .const (.int .u32 310598401), .const (.int .u32 607225278), .const (.int .u32 1426881987), .const (.int .u32 1925078388), .const (.int .u32 2162078206), .const (.int .u32 2614888103), .const (.int .u32 3248222580), .const (.int .u32 3835390401), .const (.int .u32 4022224774), .const (.int .u32 264347078), .const (.int .u32 604807628), .const (.int .u32 770255983), .const (.int .u32 1249150122), .const (.int .u32 1555081692), .const (.int .u32 1996064986), .const (.int .u32 2554220882), .const (.int .u32 2821834349), .const (.int .u32 2952996808), .const (.int .u32 3210313671), .const (.int .u32 3336571891), .const (.int .u32 3584528711), .const (.int .u32 113926993), .const (.int .u32 338241895), .const (.int .u32 666307205), .const (.int .u32 773529912), .const (.int .u32 1294757372), .const (.int .u32 1396182291), .const (.int .u32 1695183700), .const (.int .u32 1986661051), .const (.int .u32 2177026350), .const (.int .u32 2456956037), .const (.int .u32 2730485921), .const (.int .u32 2820302411), .const (.int .u32 3259730800), .const (.int .u32 3345764771), .const (.int .u32 3516065817), .const (.int .u32 3600352804), .const (.int .u32 4094571909), .const (.int .u32 275423344), .const (.int .u32 430227734), .const (.int .u32 506948616), .const (.int .u32 659060556), .const (.int .u32 883997877), .const (.int .u32 958139571), .const (.int .u32 1322822218), .const (.int .u32 1537002063), .const (.int .u32 1747873779), .const (.int .u32 1955562222), .const (.int .u32 2024104815), .const (.int .u32 2227730452), .const (.int .u32 2361852424), .const (.int .u32 2428436474), .const (.int .u32 2756734187), .const (.int .u32 3204031479), .const (.int .u32 3329325298)]) (ys := [1116352408, 1899447441, 3049323471, 3921009573, 961987163, 1508970993, 2453635748, 2870763221, 3624381080, 310598401, 607225278, 1426881987, 1925078388, 2162078206, 2614888103, 3248222580, 3835390401, 4022224774, 264347078, 604807628, 770255983, 1249150122, 1555081692, 1996064986, 2554220882, 2821834349, 2952996808, 3210313671, 3336571891, 3584528711, 113926993, 338241895, 666307205, 773529912, 1294757372, 1396182291, 1695183700, 1986661051, 2177026350, 2456956037, 2730485921, 2820302411, 3259730800, 3345764771, 3516065817, 3600352804, 4094571909, 275423344, 430227734, 506948616, 659060556, 883997877, 958139571, 1322822218, 1537002063, 1747873779, 1955562222, 2024104815, 2227730452, 2361852424, 2428436474, 2756734187, 3204031479, 3329325298]) rfl bu170 ⟨⟨_, qi, (cells_one (one_int _ _))⟩, ⟨_, qi, (cells_one (one_int _ _))⟩, ⟨_, qi, (cells_one (one_int _ _))⟩, ⟨_, qi, (cells_one (one_int _ _))⟩, ⟨_, qi, (cells_one (one_int _ _))⟩, ⟨_, qi, (cells_one (one_int _ _))⟩, ⟨_, qi, (cells_one (one_int _ _))⟩, ⟨_, qi, (cells_one (one_int _ _))⟩, ⟨_, qi, (cells_one (one_int _ _))⟩, ⟨_, qi, (cells_one (one_int _ _))⟩, ⟨_, qi, (cells_one (one_int _ _))⟩, ⟨_, qi, (cells_one (one_int _ _))⟩, ⟨_, qi, (cells_one (one_int _ _))⟩, ⟨_, qi, (cells_one (one_int _ _))⟩, ⟨_, qi, (cells_one (one_int _ _))⟩, ⟨_, qi, (cells_one (one_int _ _))⟩, ⟨_, qi, (cells_one (one_int _ _))⟩, ⟨_, qi, (cells_one (one_int _ _))⟩, ⟨_, qi, (cells_one (one_int _ _))⟩, ⟨_, qi, (cells_one (one_int _ _))⟩, ⟨_, qi, (cells_one (one_int _ _))⟩, ⟨_, qi, (cells_one (one_int _ _))⟩, ⟨_, qi, (cells_one (one_int _ _))⟩, ⟨_, qi, (cells_one (one_int _ _))⟩, ⟨_, qi, (cells_one (one_int _ _))⟩, ⟨_, qi, (cells_one (one_int _ _))⟩, ⟨_, qi, (cells_one (one_int _ _))⟩, ⟨_, qi, (cells_one (one_int _ _))⟩, ⟨_, qi, (cells_one (one_int _ _))⟩, ⟨_, qi, (cells_one (one_int _ _))⟩, ⟨_, qi, (cells_one (one_int _ _))⟩, ⟨_, qi, (cells_one (one_int _ _))⟩, ⟨_, qi, (cells_one (one_int _ _))⟩, ⟨_, qi, (cells_one (one_int _ _))⟩, ⟨_, qi, (cells_one (one_int _ _))⟩, ⟨_, qi, (cells_one (one_int _ _))⟩, ⟨_, qi, (cells_one (one_int _ _))⟩, ⟨_, qi, (cells_one (one_int _ _))⟩, ⟨_, qi, (cells_one (one_int _ _))⟩, ⟨_, qi, (cells_one (one_int _ _))⟩, ⟨_, qi, (cells_one (one_int _ _))⟩, ⟨_, qi, (cells_one (one_int _ _))⟩, ⟨_, qi, (cells_one (one_int _ _))⟩, ⟨_, qi, (cells_one (one_int _ _))⟩, ⟨_, qi, (cells_one (one_int _ _))⟩, ⟨_, qi, (cells_one (one_int _ _))⟩, ⟨_, qi, (cells_one (one_int _ _))⟩, ⟨_, qi, (cells_one (one_int _ _))⟩, ⟨_, qi, (cells_one (one_int _ _))⟩, ⟨_, qi, (cells_one (one_int _ _))⟩, ⟨_, qi, (cells_one (one_int _ _))⟩, ⟨_, qi, (cells_one (one_int _ _))⟩, ⟨_, qi, (cells_one (one_int _ _))⟩, ⟨_, qi, (cells_one (one_int _ _))⟩, ⟨_, qi, (cells_one (one_int _ _))⟩, ⟨_, qi, (cells_one (one_int _ _))⟩, ⟨_, qi, (cells_one (one_int _ _))⟩, ⟨_, qi, (cells_one (one_int _ _))⟩, ⟨_, qi, (cells_one (one_int _ _))⟩, ⟨_, qi, (cells_one (one_int _ _))⟩, ⟨_, qi, (cells_one (one_int _ _))⟩, ⟨_, qi, (cells_one (one_int _ _))⟩, ⟨_, qi, (cells_one (one_int _ _))⟩, ⟨_, qi, (cells_one (one_int _ _))⟩, trivial⟩ (by decide) rfl) <| ou [0, 500] 1 (op_store_w Tryd.sizeOf170 q0 q1 (cells_agg _)) .nil) fun _ a w h => ?_
  refine wp_ret ?_
  obtain rfl := Option.some.inj hF
  exact ⟨.inl rfl, ret1 h Tryd.results105 (r_cell 0 1 rfl rfl Tryd.isAgg170 Tryd.sizeOf170 rfl) [] [] rfl rfl rfl⟩

def ref01_turn (a_0 : Int) (a_1 : Int) : Option Int := some (bits .or .u32 (shr .u32 a_0 a_1) (shl .u32 a_0 (IntKind.wrap .u64 (32 - a_1))))
theorem ref01_turn_ok {a_0 : Int} {a_1 : Int} {r : Int} (hF : ref01_turn a_0 a_1 = some r) : CallOk Tryd.prog KG 106 [(intVP .u32 a_0), (intVP .u64 a_1)] [] (fun _ => []) (intVP .u32 r) := by
  refine CallOk.intro 13 Tryd.func106 rfl Tryd.ntmps106 (Nat.le_of_ble_eq_true rfl) ?_
  intro c a w hG hn h
  unfold ref01_turn at hF
  change SatL c [.slot 0 (intVP .u32 a_0), .slot 1 (intVP .u64 a_1)] a w at h
  refine regS mixed hn hG h [0, 1] (ov [] (op_assign qi) .nil) fun _ a w h => ?_
  refine regS mixed hn hG h [500] (ov [0] (op_move q0) <| ov [1] (op_move q0) <| ov [501, 500] (op_bin (bin_shru rfl) q0 q1) <| ov [0] (op_move q0) <| ov [1] (op_move q0) <| ov [500] (op_bin bin_sub qi q0) <| ov [502, 500] (op_bin (bin_shlu rfl) q0 q1) <| ov [504, 500] (op_bin bin_or q0 q1) <| ov [500] (op_assign q0) .nil) fun _ a w h => ?_
  refine wp_ret ?_
  obtain rfl := Option.some.inj hF
  exact ⟨.inl rfl, ret1 h Tryd.results106 (r_tmp 0 rfl) [] [] rfl rfl rfl⟩

def ref01_Block.b1 (a_1 : List (UInt8)) (x12 : Int) (x13 : List Int) : Option (Flow (List Int) (Int × (List Int))) := (if (decide (x12 < (16 : Int))) = true then (if (0 : Int) ≤ IntKind.wrap .i64 (4 * x12) ∧ IntKind.wrap .i64 (4 * x12) < a_1.length then (if (0 : Int) ≤ IntKind.wrap .i64 ((IntKind.wrap .i64 (4 * x12)) + 1) ∧ IntKind.wrap .i64 ((IntKind.wrap .i64 (4 * x12)) + 1) < a_1.length then (if (0 : Int) ≤ IntKind.wrap .i64 ((IntKind.wrap .i64 (4 * x12)) + 2) ∧ IntKind.wrap .i64 ((IntKind.wrap .i64 (4 * x12)) + 2) < a_1.length then (if (0 : Int) ≤ IntKind.wrap .i64 ((IntKind.wrap .i64 (4 * x12)) + 3) ∧ IntKind.wrap .i64 ((IntKind.wrap .i64 (4 * x12)) + 3) < a_1.length then (if (0 : Int) ≤ x12 ∧ x12 < 64 then some (.cont (IntKind.wrap .i64 (x12 + 1), x13.set x12.toNat (IntKind.wrap .u32 ((IntKind.wrap .u32 ((IntKind.wrap .u32 ((IntKind.wrap .u32 ((IntKind.wrap .u32 ((a_1.getD (IntKind.wrap .i64 (4 * x12)).toNat default).toNat)) * 16777216)) + (IntKind.wrap .u32 ((IntKind.wrap .u32 ((a_1.getD (IntKind.wrap .i64 ((IntKind.wrap .i64 (4 * x12)) + 1)).toNat default).toNat)) * 65536)))) + (IntKind.wrap .u32 ((IntKind.wrap .u32 ((a_1.getD (IntKind.wrap .i64 ((IntKind.wrap .i64 (4 * x12)) + 2)).toNat default).toNat)) * 256)))) + (IntKind.wrap .u32 ((a_1.getD (IntKind.wrap .i64 ((IntKind.wrap .i64 (4 * x12)) + 3)).toNat default).toNat)))))) else none) else none) else none) else none) else none) else some (.brk (x12, x13)))
def ref01_Block.b2 (x43 : Int) (x44 : List Int) : Option (Flow (List Int) (Int × (List Int))) := (if (decide (x43 < (64 : Int))) = true then (if (0 : Int) ≤ IntKind.wrap .i64 (x43 - 15) ∧ IntKind.wrap .i64 (x43 - 15) < 64 then ((ref01_turn (x44.getD (IntKind.wrap .i64 (x43 - 15)).toNat 0) 7).bind fun r59 => ((ref01_turn (x44.getD (IntKind.wrap .i64 (x43 - 15)).toNat 0) 18).bind fun r60 => (if (0 : Int) ≤ IntKind.wrap .i64 (x43 - 2) ∧ IntKind.wrap .i64 (x43 - 2) < 64 then ((ref01_turn (x44.getD (IntKind.wrap .i64 (x43 - 2)).toNat 0) 17).bind fun r62 => ((ref01_turn (x44.getD (IntKind.wrap .i64 (x43 - 2)).toNat 0) 19).bind fun r63 => (if (0 : Int) ≤ IntKind.wrap .i64 (x43 - 16) ∧ IntKind.wrap .i64 (x43 - 16) < 64 then (if (0 : Int) ≤ IntKind.wrap .i64 (x43 - 7) ∧ IntKind.wrap .i64 (x43 - 7) < 64 then (if (0 : Int) ≤ x43 ∧ x43 < 64 then some (.cont (IntKind.wrap .i64 (x43 + 1), x44.set x43.toNat (IntKind.wrap .u32 ((IntKind.wrap .u32 ((IntKind.wrap .u32 ((x44.getD (IntKind.wrap .i64 (x43 - 16)).toNat 0) + (bits .xor .u32 (bits .xor .u32 r59 r60) (shr .u32 (x44.getD (IntKind.wrap .i64 (x43 - 15)).toNat 0) 3)))) + (x44.getD (IntKind.wrap .i64 (x43 - 7)).toNat 0))) + (bits .xor .u32 (bits .xor .u32 r62 r63) (shr .u32 (x44.getD (IntKind.wrap .i64 (x43 - 2)).toNat 0) 10)))))) else none) else none) else none))) else none))) else none) else some (.brk (x43, x44)))
def ref01_Block.b3 (r4 : (List Int)) (y72 : List Int) (x80 : Int) (x81 : Int) (x82 : Int) (x83 : Int) (x84 : Int) (x85 : Int) (x86 : Int) (x87 : Int) (x88 : Int) : Option (Flow (List Int) (Int × Int × Int × Int × Int × Int × Int × Int × Int)) := (if (decide (x88 < (64 : Int))) = true then ((ref01_turn x84 6).bind fun r107 => ((ref01_turn x84 11).bind fun r108 => ((ref01_turn x84 25).bind fun r109 => (if (0 : Int) ≤ x88 ∧ x88 < 64 then ((ref01_turn x80 2).bind fun r111 => ((ref01_turn x80 13).bind fun r112 => ((ref01_turn x80 22).bind fun r113 => some (.cont (IntKind.wrap .u32 ((IntKind.wrap .u32 ((IntKind.wrap .u32 ((IntKind.wrap .u32 ((IntKind.wrap .u32 (x87 + (bits .xor .u32 (bits .xor .u32 r107 r108) r109))) + (bits .xor .u32 (bits .and .u32 x84 x85) (bits .and .u32 (bits .xor .u32 4294967295 x84) x86)))) + (r4.getD x88.toNat 0))) + (y72.getD x88.toNat 0))) + (IntKind.wrap .u32 ((bits .xor .u32 (bits .xor .u32 r111 r112) r113) + (bits .xor .u32 (bits .xor .u32 (bits .and .u32 x80 x81) (bits .and .u32 x80 x82)) (bits .and .u32 x81 x82))))), x80, x81, x82, IntKind.wrap .u32 (x83 + (IntKind.wrap .u32 ((IntKind.wrap .u32 ((IntKind.wrap .u32 ((IntKind.wrap .u32 (x87 + (bits .xor .u32 (bits .xor .u32 r107 r108) r109))) + (bits .xor .u32 (bits .and .u32 x84 x85) (bits .and .u32 (bits .xor .u32 4294967295 x84) x86)))) + (r4.getD x88.toNat 0))) + (y72.getD x88.toNat 0)))), x84, x85, x86, IntKind.wrap .i64 (x88 + 1)))))) else none)))) else some (.brk (x80, x81, x82, x83, x84, x85, x86, x87, x88)))
def ref01_Block (a_0 : List Int) (a_1 : List (UInt8)) : Option (List Int) := (if (!decide ((a_1.length : Int) = (64 : Int))) = true then some a_0 else ((ref01_constants).bind fun r4 => ((loopN (fun s : Int × (List Int) => ref01_Block.b1 a_1 s.1 s.2) ((16 - 0 : Int).toNat + 2) (0, (List.replicate 64 0))).bind fun cr => match cr with | .ret r => some r | .next (y32, y33) => ((loopN (fun s : Int × (List Int) => ref01_Block.b2 s.1 s.2) ((64 - 16 : Int).toNat + 2) (16, y33)).bind fun cr => match cr with | .ret r => some r | .next (y71, y72) => ((loopN (fun s : Int × Int × Int × Int × Int × Int × Int × Int × Int => ref01_Block.b3 r4 y72 s.1 s.2.1 s.2.2.1 s.2.2.2.1 s.2.2.2.2.1 s.2.2.2.2.2.1 s.2.2.2.2.2.2.1 s.2.2.2.2.2.2.2.1 s.2.2.2.2.2.2.2.2) ((64 - 0 : Int).toNat + 2) (a_0.getD (0 : Int).toNat 0, a_0.getD (1 : Int).toNat 0, a_0.getD (2 : Int).toNat 0, a_0.getD (3 : Int).toNat 0, a_0.getD (4 : Int).toNat 0, a_0.getD (5 : Int).toNat 0, a_0.getD (6 : Int).toNat 0, a_0.getD (7 : Int).toNat 0, 0)).bind fun cr => match cr with | .ret r => some r | .next (y118, y119, y120, y121, y122, y123, y124, y125, y126) => some ([IntKind.wrap .u32 ((a_0.getD (0 : Int).toNat 0) + y118), IntKind.wrap .u32 ((a_0.getD (1 : Int).toNat 0) + y119), IntKind.wrap .u32 ((a_0.getD (2 : Int).toNat 0) + y120), IntKind.wrap .u32 ((a_0.getD (3 : Int).toNat 0) + y121), IntKind.wrap .u32 ((a_0.getD (4 : Int).toNat 0) + y122), IntKind.wrap .u32 ((a_0.getD (5 : Int).toNat 0) + y123), IntKind.wrap .u32 ((a_0.getD (6 : Int).toNat 0) + y124), IntKind.wrap .u32 ((a_0.getD (7 : Int).toNat 0) + y125)] ++ List.replicate (8 - 8) 0))))))
theorem ref01_Block_ok {a_0 : List Int} {a_1 : List (UInt8)} {r : (List Int)} (hF : ref01_Block a_0 a_1 = some r) : CallOk Tryd.prog KG 101 [(aggVP [intsCk .u32 8 a_0]), (slVP bC a_1)] [] (fun _ => []) (aggVP [intsCk .u32 8 r]) := by
  refine CallOk.intro 231 Tryd.func101 rfl Tryd.ntmps101 (Nat.le_of_ble_eq_true rfl) ?_
  intro c a w hG hn h
  unfold ref01_Block at hF
  change SatL c [.slot 0 (aggVP [intsCk .u32 8 a_0]), .slot 1 (slVP bC a_1)] a w at h
  refine regS mixed hn hG h [1, 503, 501, 502, 500] (ob [0] (op_box q0 (cells_agg _)) <| ob [] (op_alloc Tryd.zeroValue150 z150) .nil) fun b1 a w h => ?_
  refine wp_seq ?_
  refine regS mixed hn hG h [0, 1, 2, 500, 3, 4] (ov [0] (op_move q0) <| ov [500] (op_len_sl Tryd.underlying129 q0) <| ov [500] (op_bin bin_neq q0 qi) .nil) fun _ a w h => ?_
  refine cnd h hF 3 [1, 2, 4, 5] [0, 1, 2, 4, 5] (fun hb3 hF h => ?_) (fun hb3 hF h => ?_)
  · refine regS mixed hn hG h [1, 500] (ov [0, 2] (op_load_w 1 Tryd.isAgg150 Tryd.sizeOf150 q0) <| ou [1, 500] 3 (op_store_w Tryd.sizeOf150 q0 q1 (cells_agg _)) .nil) fun _ a w h => ?_
    refine wp_ret ?_
    obtain rfl := Option.some.inj hF
    exact ⟨.inl rfl, ret1 h Tryd.results101 (r_cell 0 1 rfl rfl Tryd.isAgg150 Tryd.sizeOf150 rfl) [] [] rfl rfl rfl⟩
  · refine wp_skip ?_
    show Code.wp Tryd.prog _ _ a w
    obtain ⟨r4, hr4, hF⟩ := bind_some hF
    refine regS mixed hn hG h [0, 1, 2, 502, 3, 4, 500] (oc [] [] Tryd.call105 (ref01_constants_ok hr4) trivial <| ob [] (op_alloc Tryd.zeroValue170 z170) <| og [501, 502] [500] [.res 1 100000 (fun v1_ _ => (lb (v1_) 170 [intsCk .u32 64 r4]))] (GOk.plain (op_store_w Tryd.sizeOf170 q0 q1 (cells_agg _)) rfl) .nil) fun b5 a w h => ?_
    refine regS mixed hn hG h [0, 1, 2, 3, 501, 4, 5, 6, 500] (ob [] (op_alloc Tryd.zeroValue170 z170) .nil) fun b6 a w h => ?_
    refine wp_seq ?_
    refine regS mixed hn hG h [0, 1, 2, 3, 4, 500, 5, 6, 7, 8] (ov [] (op_assign qi) .nil) fun _ a w h => ?_
    refine wp_block ?_
    obtain ⟨cr28, hl29, hF⟩ := bind_some hF
    refine wp_mono (wp_loopN (R := (List Int)) (S := Int × (List Int)) (fun s a w => SatL c [.slot 1 (slVP bC a_1), .slot 2 (lpVP (b1 0) 0), .slot 4 (lpVP (b1 1) 0), .slot 5 (lpVP (b5 1) 0), .slot 6 (lpVP (b6 0) 0), .slot 7 (intVP .i64 s.1), .res (lb (b1 0) 150 [intsCk .u32 8 a_0]), .res (lb (b1 1) 150 [intsCk .u32 8 (List.replicate 8 0)]), .res (lb (b5 1) 170 [intsCk .u32 64 r4]), .res (lb (b6 0) 170 [intsCk .u32 64 s.2])] a w) (fun res e a w => match res with | .next s => e = .exit 0 ∧ SatL c [.slot 2 (lpVP (b1 0) 0), .slot 4 (lpVP (b1 1) 0), .slot 5 (lpVP (b5 1) 0), .slot 6 (lpVP (b6 0) 0), .res (lb (b1 0) 150 [intsCk .u32 8 a_0]), .res (lb (b1 1) 150 [intsCk .u32 8 (List.replicate 8 0)]), .res (lb (b5 1) 170 [intsCk .u32 64 r4]), .res (lb (b6 0) 170 [intsCk .u32 64 s.2])] a w | .ret r => e = .ret ∧ RetOk Tryd.prog Tryd.f101 c (aggVP [intsCk .u32 8 r]) (fun _ => []) a w) ?_ _ (0, (List.replicate 64 0)) _ _ _ (h.sub [0, 1, 2, 3, 4, 5, 6, 7, 8, 9] (by rfl)) hl29) ?_
    · clear hl29 hF h
      intro s a w o h hF
      obtain ⟨x12, x13⟩ := s
      change ref01_Block.b1 a_1 x12 x13 = some o at hF
      unfold ref01_Block.b1 at hF
      change SatL c [.slot 1 (slVP bC a_1), .slot 2 (lpVP (b1 0) 0), .slot 4 (lpVP (b1 1) 0), .slot 5 (lpVP (b5 1) 0), .slot 6 (lpVP (b6 0) 0), .slot 7 (intVP .i64 x12), .res (lb (b1 0) 150 [intsCk .u32 8 a_0]), .res (lb (b1 1) 150 [intsCk .u32 8 (List.replicate 8 0)]), .res (lb (b5 1) 170 [intsCk .u32 64 r4]), .res (lb (b6 0) 170 [intsCk .u32 64 x13])] a w at h
      refine wp_seq ?_
      refine regS mixed hn hG h [0, 1, 2, 3, 4, 5, 500, 6, 7, 8, 9] (ov [5] (op_move q0) <| ov [500] (op_bin bin_lss q0 qi) .nil) fun _ a w h => ?_
      refine cnd h hF 6 [0, 1, 2, 3, 4, 5, 7, 8, 9, 10] [0, 1, 2, 3, 4, 5, 7, 8, 9, 10] (fun hb22 hF h => ?_) (fun hb22 hF h => ?_)
      · refine wp_skip ?_
        show Code.wp Tryd.prog _ _ a w
        refine wp_seq ?_
        refine wp_block ?_
        obtain ⟨hv23, hF⟩ := ite_some hF
        obtain ⟨hv24, hF⟩ := ite_some hF
        obtain ⟨hv25, hF⟩ := ite_some hF
        obtain ⟨hv26, hF⟩ := ite_some hF
        obtain ⟨hv27, hF⟩ := ite_some hF
        refine reg mixed hn hG h [0, 1, 2, 3, 4, 5, 6, 7, 8, 500] (ov [5] (op_move q0) <| ov [0] (op_move q0) <| ov [5] (op_move q0) <| ov [500] (op_bin bin_mul qi q0) <| ov [502, 500] (op_indexAddr_sl Tryd.underlying129 Tryd.sizeOf5 lens_bC q0 q1 hv23) <| ov [500] (op_load_pp1 [] Tryd.isAgg5 q0) <| ov [500] (op_convert_int Tryd.underlying5 Tryd.underlying51 q0) <| ov [500] (op_bin bin_mul q0 qi) <| ov [0] (op_move q0) <| ov [5] (op_move q0) <| ov [500] (op_bin bin_mul qi q0) <| ov [500] (op_bin bin_add q0 qi) <| ov [503, 500] (op_indexAddr_sl Tryd.underlying129 Tryd.sizeOf5 lens_bC q0 q1 hv24) <| ov [500] (op_load_pp1 [] Tryd.isAgg5 q0) <| ov [500] (op_convert_int Tryd.underlying5 Tryd.underlying51 q0) <| ov [500] (op_bin bin_mul q0 qi) <| ov [508, 500] (op_bin bin_add q0 q1) <| ov [0] (op_move q0) <| ov [5] (op_move q0) <| ov [500] (op_bin bin_mul qi q0) <| ov [500] (op_bin bin_add q0 qi) <| ov [503, 500] (op_indexAddr_sl Tryd.underlying129 Tryd.sizeOf5 lens_bC q0 q1 hv25) <| ov [500] (op_load_pp1 [] Tryd.isAgg5 q0) <| ov [500] (op_convert_int Tryd.underlying5 Tryd.underlying51 q0) <| ov [500] (op_bin bin_mul q0 qi) <| ov [508, 500] (op_bin bin_add q0 q1) <| ov [0] (op_move q0) <| ov [5] (op_move q0) <| ov [500] (op_bin bin_mul qi q0) <| ov [500] (op_bin bin_add q0 qi) <| ov [503, 500] (op_indexAddr_sl Tryd.underlying129 Tryd.sizeOf5 lens_bC q0 q1 hv26) <| ov [500] (op_load_pp1 [] Tryd.isAgg5 q0) <| ov [500] (op_convert_int Tryd.underlying5 Tryd.underlying51 q0) <| ov [507, 500] (op_bin bin_add q0 q1) <| ov [4, 533] (op_indexAddr_lb Tryd.underlying170 Tryd.sizeOf51 q0 q1 hv27) <| ou [500, 501] 9 (op_store_lbI (i := x12) [] [] Tryd.sizeOf51 q0 q1 rfl hv27) .nil) fun _ a w h => ?_
        show Code.wp Tryd.prog _ _ a w
        refine reg mixed hn hG h [0, 1, 2, 3, 4, 500, 6, 7, 8, 9] (ov [5] (op_move q0) <| ov [500] (op_bin bin_add q0 qi) <| od [500] 5 (op_assign q0) .nil) fun _ a w h => ?_
        obtain rfl := Option.some.inj hF
        exact ⟨rfl, h.sub [0, 1, 2, 3, 4, 5, 6, 7, 8, 9] (by rfl)⟩
      · refine wp_exit ?_
        obtain rfl := Option.some.inj hF
        exact ⟨exit_ne _, rfl, h.sub [1, 2, 3, 4, 6, 7, 8, 9] (by rfl)⟩
    · clear hl29
      intro e a w hq
      cases cr28 with
      | ret r30 =>
        obtain ⟨rfl, hq⟩ := hq
        obtain rfl := Option.some.inj hF
        exact ⟨.inl rfl, hq⟩
      | next s31 =>
        obtain ⟨y32, y33⟩ := s31
        obtain ⟨rfl, h⟩ := hq
        change SatL c [.slot 2 (lpVP (b1 0) 0), .slot 4 (lpVP (b1 1) 0), .slot 5 (lpVP (b5 1) 0), .slot 6 (lpVP (b6 0) 0), .res (lb (b1 0) 150 [intsCk .u32 8 a_0]), .res (lb (b1 1) 150 [intsCk .u32 8 (List.replicate 8 0)]), .res (lb (b5 1) 170 [intsCk .u32 64 r4]), .res (lb (b6 0) 170 [intsCk .u32 64 y33])] a w at h
        refine inBlock_at ?_
        show Code.wp Tryd.prog _ _ a w
        refine wp_seq ?_
        refine regS mixed hn hG h [0, 1, 2, 3, 500, 4, 5, 6, 7] (ov [] (op_assign qi) .nil) fun _ a w h => ?_
        refine wp_block ?_
        obtain ⟨cr67, hl68, hF⟩ := bind_some hF
        refine wp_mono (wp_loopN (R := (List Int)) (S := Int × (List Int)) (fun s a w => SatL c [.slot 2 (lpVP (b1 0) 0), .slot 4 (lpVP (b1 1) 0), .slot 5 (lpVP (b5 1) 0), .slot 6 (lpVP (b6 0) 0), .slot 8 (intVP .i64 s.1), .res (lb (b1 0) 150 [intsCk .u32 8 a_0]), .res (lb (b1 1) 150 [intsCk .u32 8 (List.replicate 8 0)]), .res (lb (b5 1) 170 [intsCk .u32 64 r4]), .res (lb (b6 0) 170 [intsCk .u32 64 s.2])] a w) (fun res e a w => match res with | .next s => e = .exit 2 ∧ SatL c [.slot 2 (lpVP (b1 0) 0), .slot 4 (lpVP (b1 1) 0), .slot 5 (lpVP (b5 1) 0), .slot 6 (lpVP (b6 0) 0), .res (lb (b1 0) 150 [intsCk .u32 8 a_0]), .res (lb (b1 1) 150 [intsCk .u32 8 (List.replicate 8 0)]), .res (lb (b5 1) 170 [intsCk .u32 64 r4]), .res (lb (b6 0) 170 [intsCk .u32 64 s.2])] a w | .ret r => e = .ret ∧ RetOk Tryd.prog Tryd.f101 c (aggVP [intsCk .u32 8 r]) (fun _ => []) a w) ?_ _ (16, y33) _ _ _ (h.sub [0, 1, 2, 3, 4, 5, 6, 7, 8] (by rfl)) hl68) ?_
        · clear hl68 hF h
          intro s a w o h hF
          obtain ⟨x43, x44⟩ := s
          change ref01_Block.b2 x43 x44 = some o at hF
          unfold ref01_Block.b2 at hF
          change SatL c [.slot 2 (lpVP (b1 0) 0), .slot 4 (lpVP (b1 1) 0), .slot 5 (lpVP (b5 1) 0), .slot 6 (lpVP (b6 0) 0), .slot 8 (intVP .i64 x43), .res (lb (b1 0) 150 [intsCk .u32 8 a_0]), .res (lb (b1 1) 150 [intsCk .u32 8 (List.replicate 8 0)]), .res (lb (b5 1) 170 [intsCk .u32 64 r4]), .res (lb (b6 0) 170 [intsCk .u32 64 x44])] a w at h
          refine wp_seq ?_
          refine regS mixed hn hG h [0, 1, 2, 3, 4, 500, 5, 6, 7, 8] (ov [4] (op_move q0) <| ov [500] (op_bin bin_lss q0 qi) .nil) fun _ a w h => ?_
          refine cnd h hF 5 [0, 1, 2, 3, 4, 6, 7, 8, 9] [0, 1, 2, 3, 4, 6, 7, 8, 9] (fun hb57 hF h => ?_) (fun hb57 hF h => ?_)
          · refine wp_skip ?_
            show Code.wp Tryd.prog _ _ a w
            refine wp_seq ?_
            refine wp_block ?_
            obtain ⟨hv58, hF⟩ := ite_some hF
            obtain ⟨r59, hr59, hF⟩ := bind_some hF
            obtain ⟨r60, hr60, hF⟩ := bind_some hF
            refine regS mixed hn hG h [0, 1, 2, 3, 4, 500, 5, 6, 7, 8] (ov [4] (op_move q0) <| ov [500] (op_bin bin_sub q0 qi) <| ov [3, 500] (op_indexAddr_lb Tryd.underlying170 Tryd.sizeOf51 q0 q1 hv58) <| ov [500, 8] (op_load_lbI (i := IntKind.wrap .i64 (x43 - 15)) [] [] 1 Tryd.isAgg51 q0 rfl rfl hv58) <| oc [500] [] Tryd.call106 (ref01_turn_ok hr59) ⟨q0, qi, trivial⟩ <| ov [4] (op_move q0) <| ov [500] (op_bin bin_sub q0 qi) <| ov [3, 500] (op_indexAddr_lb Tryd.underlying170 Tryd.sizeOf51 q0 q1 hv58) <| ov [500, 8] (op_load_lbI (i := IntKind.wrap .i64 (x43 - 15)) [] [] 1 Tryd.isAgg51 q0 rfl rfl hv58) <| oc [500] [] Tryd.call106 (ref01_turn_ok hr60) ⟨q0, qi, trivial⟩ <| ov [505, 500] (op_bin bin_xor q0 q1) <| ov [4] (op_move q0) <| ov [500] (op_bin bin_sub q0 qi) <| ov [3, 500] (op_indexAddr_lb Tryd.underlying170 Tryd.sizeOf51 q0 q1 hv58) <| ov [500, 8] (op_load_lbI (i := IntKind.wrap .i64 (x43 - 15)) [] [] 1 Tryd.isAgg51 q0 rfl rfl hv58) <| ov [500] (op_bin (bin_shru rfl) q0 qi) <| ov [505, 500] (op_bin bin_xor q0 q1) <| ov [500] (op_assign q0) .nil) fun _ a w h => ?_
            obtain ⟨hv61, hF⟩ := ite_some hF
            obtain ⟨r62, hr62, hF⟩ := bind_some hF
            obtain ⟨r63, hr63, hF⟩ := bind_some hF
            refine regS mixed hn hG h [0, 1, 2, 3, 4, 5, 500, 6, 7, 8, 9] (ov [4] (op_move q0) <| ov [500] (op_bin bin_sub q0 qi) <| ov [3, 500] (op_indexAddr_lb Tryd.underlying170 Tryd.sizeOf51 q0 q1 hv61) <| ov [500, 9] (op_load_lbI (i := IntKind.wrap .i64 (x43 - 2)) [] [] 1 Tryd.isAgg51 q0 rfl rfl hv61) <| oc [500] [] Tryd.call106 (ref01_turn_ok hr62) ⟨q0, qi, trivial⟩ <| ov [4] (op_move q0) <| ov [500] (op_bin bin_sub q0 qi) <| ov [3, 500] (op_indexAddr_lb Tryd.underlying170 Tryd.sizeOf51 q0 q1 hv61) <| ov [500, 9] (op_load_lbI (i := IntKind.wrap .i64 (x43 - 2)) [] [] 1 Tryd.isAgg51 q0 rfl rfl hv61) <| oc [500] [] Tryd.call106 (ref01_turn_ok hr63) ⟨q0, qi, trivial⟩ <| ov [505, 500] (op_bin bin_xor q0 q1) <| ov [4] (op_move q0) <| ov [500] (op_bin bin_sub q0 qi) <| ov [3, 500] (op_indexAddr_lb Tryd.underlying170 Tryd.sizeOf51 q0 q1 hv61) <| ov [500, 9] (op_load_lbI (i := IntKind.wrap .i64 (x43 - 2)) [] [] 1 Tryd.isAgg51 q0 rfl rfl hv61) <| ov [500] (op_bin (bin_shru rfl) q0 qi) <| ov [505, 500] (op_bin bin_xor q0 q1) <| ov [500] (op_assign q0) .nil) fun _ a w h => ?_
            obtain ⟨hv64, hF⟩ := ite_some hF
            obtain ⟨hv65, hF⟩ := ite_some hF
            obtain ⟨hv66, hF⟩ := ite_some hF
            refine reg mixed hn hG h [0, 1, 2, 3, 4, 7, 8, 9, 500] (ov [4] (op_move q0) <| ov [4] (op_move q0) <| ov [500] (op_bin bin_sub q0 qi) <| ov [3, 500] (op_indexAddr_lb Tryd.underlying170 Tryd.sizeOf51 q0 q1 hv64) <| ov [500, 10] (op_load_lbI (i := IntKind.wrap .i64 (x43 - 16)) [] [] 1 Tryd.isAgg51 q0 rfl rfl hv64) <| ov [5] (op_move q0) <| ov [501, 500] (op_bin bin_add q0 q1) <| ov [4] (op_move q0) <| ov [500] (op_bin bin_sub q0 qi) <| ov [3, 500] (op_indexAddr_lb Tryd.underlying170 Tryd.sizeOf51 q0 q1 hv65) <| ov [500, 10] (op_load_lbI (i := IntKind.wrap .i64 (x43 - 7)) [] [] 1 Tryd.isAgg51 q0 rfl rfl hv65) <| ov [504, 500] (op_bin bin_add q0 q1) <| ov [6] (op_move q0) <| ov [501, 500] (op_bin bin_add q0 q1) <| ov [3, 513] (op_indexAddr_lb Tryd.underlying170 Tryd.sizeOf51 q0 q1 hv66) <| ou [500, 501] 10 (op_store_lbI (i := x43) [] [] Tryd.sizeOf51 q0 q1 rfl hv66) .nil) fun _ a w h => ?_
            show Code.wp Tryd.prog _ _ a w
            refine reg mixed hn hG h [0, 1, 2, 3, 500, 5, 6, 7, 8] (ov [4] (op_move q0) <| ov [500] (op_bin bin_add q0 qi) <| od [500] 4 (op_assign q0) .nil) fun _ a w h => ?_
            obtain rfl := Option.some.inj hF
            exact ⟨rfl, h.sub [0, 1, 2, 3, 4, 5, 6, 7, 8] (by rfl)⟩
          · refine wp_exit ?_
            obtain rfl := Option.some.inj hF
            exact ⟨exit_ne _, rfl, h.sub [0, 1, 2, 3, 5, 6, 7, 8] (by rfl)⟩
        · clear hl68
          intro e a w hq
          cases cr67 with
          | ret r69 =>
            obtain ⟨rfl, hq⟩ := hq
            obtain rfl := Option.some.inj hF
            exact ⟨.inl rfl, hq⟩
          | next s70 =>
            obtain ⟨y71, y72⟩ := s70
            obtain ⟨rfl, h⟩ := hq
            change SatL c [.slot 2 (lpVP (b1 0) 0), .slot 4 (lpVP (b1 1) 0), .slot 5 (lpVP (b5 1) 0), .slot 6 (lpVP (b6 0) 0), .res (lb (b1 0) 150 [intsCk .u32 8 a_0]), .res (lb (b1 1) 150 [intsCk .u32 8 (List.replicate 8 0)]), .res (lb (b5 1) 170 [intsCk .u32 64 r4]), .res (lb (b6 0) 170 [intsCk .u32 64 y72])] a w at h
            refine inBlock_at ?_
            show Code.wp Tryd.prog _ _ a w
            refine regS mixed hn hG h [0, 1, 2, 3, 507, 506, 505, 504, 503, 502, 501, 500, 4, 5, 6, 7] (ov [0] (op_indexAddr_lb Tryd.underlying150 Tryd.sizeOf51 q0 qi (by decide)) <| ov [500, 4] (op_load_lbI (i := 0) [] [] 1 Tryd.isAgg51 q0 rfl rfl (by decide)) <| ov [0] (op_indexAddr_lb Tryd.underlying150 Tryd.sizeOf51 q0 qi (by decide)) <| ov [500, 4] (op_load_lbI (i := 1) [] [] 1 Tryd.isAgg51 q0 rfl rfl (by decide)) <| ov [0] (op_indexAddr_lb Tryd.underlying150 Tryd.sizeOf51 q0 qi (by decide)) <| ov [500, 4] (op_load_lbI (i := 2) [] [] 1 Tryd.isAgg51 q0 rfl rfl (by decide)) <| ov [0] (op_indexAddr_lb Tryd.underlying150 Tryd.sizeOf51 q0 qi (by decide)) <| ov [500, 4] (op_load_lbI (i := 3) [] [] 1 Tryd.isAgg51 q0 rfl rfl (by decide)) <| ov [0] (op_indexAddr_lb Tryd.underlying150 Tryd.sizeOf51 q0 qi (by decide)) <| ov [500, 4] (op_load_lbI (i := 4) [] [] 1 Tryd.isAgg51 q0 rfl rfl (by decide)) <| ov [0] (op_indexAddr_lb Tryd.underlying150 Tryd.sizeOf51 q0 qi (by decide)) <| ov [500, 4] (op_load_lbI (i := 5) [] [] 1 Tryd.isAgg51 q0 rfl rfl (by decide)) <| ov [0] (op_indexAddr_lb Tryd.underlying150 Tryd.sizeOf51 q0 qi (by decide)) <| ov [500, 4] (op_load_lbI (i := 6) [] [] 1 Tryd.isAgg51 q0 rfl rfl (by decide)) <| ov [0] (op_indexAddr_lb Tryd.underlying150 Tryd.sizeOf51 q0 qi (by decide)) <| ov [500, 4] (op_load_lbI (i := 7) [] [] 1 Tryd.isAgg51 q0 rfl rfl (by decide)) <| ov [514] (op_assign q0) <| ov [513] (op_assign q0) <| ov [512] (op_assign q0) <| ov [511] (op_assign q0) <| ov [510] (op_assign q0) <| ov [509] (op_assign q0) <| ov [508] (op_assign q0) <| ov [507] (op_assign q0) .nil) fun _ a w h => ?_
            refine wp_seq ?_
            refine regS mixed hn hG h [0, 1, 2, 3, 4, 5, 6, 7, 8, 9, 10, 11, 500, 12, 13, 14, 15] (ov [] (op_assign qi) .nil) fun _ a w h => ?_
            refine wp_block ?_
            obtain ⟨cr114, hl115, hF⟩ := bind_some hF
            refine wp_mono (wp_loopN (R := (List Int)) (S := Int × Int × Int × Int × Int × Int × Int × Int × Int) (fun s a w => SatL c [.slot 2 (lpVP (b1 0) 0), .slot 4 (lpVP (b1 1) 0), .slot 5 (lpVP (b5 1) 0), .slot 6 (lpVP (b6 0) 0), .slot 11 (intVP .u32 s.1), .slot 12 (intVP .u32 s.2.1), .slot 13 (intVP .u32 s.2.2.1), .slot 14 (intVP .u32 s.2.2.2.1), .slot 15 (intVP .u32 s.2.2.2.2.1), .slot 16 (intVP .u32 s.2.2.2.2.2.1), .slot 17 (intVP .u32 s.2.2.2.2.2.2.1), .slot 18 (intVP .u32 s.2.2.2.2.2.2.2.1), .slot 19 (intVP .i64 s.2.2.2.2.2.2.2.2), .res (lb (b1 0) 150 [intsCk .u32 8 a_0]), .res (lb (b1 1) 150 [intsCk .u32 8 (List.replicate 8 0)]), .res (lb (b5 1) 170 [intsCk .u32 64 r4]), .res (lb (b6 0) 170 [intsCk .u32 64 y72])] a w) (fun res e a w => match res with | .next s => e = .exit 4 ∧ SatL c [.slot 2 (lpVP (b1 0) 0), .slot 4 (lpVP (b1 1) 0), .slot 11 (intVP .u32 s.1), .slot 12 (intVP .u32 s.2.1), .slot 13 (intVP .u32 s.2.2.1), .slot 14 (intVP .u32 s.2.2.2.1), .slot 15 (intVP .u32 s.2.2.2.2.1), .slot 16 (intVP .u32 s.2.2.2.2.2.1), .slot 17 (intVP .u32 s.2.2.2.2.2.2.1), .slot 18 (intVP .u32 s.2.2.2.2.2.2.2.1), .res (lb (b1 0) 150 [intsCk .u32 8 a_0]), .res (lb (b1 1) 150 [intsCk .u32 8 (List.replicate 8 0)])] a w | .ret r => e = .ret ∧ RetOk Tryd.prog Tryd.f101 c (aggVP [intsCk .u32 8 r]) (fun _ => []) a w) ?_ _ (a_0.getD (0 : Int).toNat 0, a_0.getD (1 : Int).toNat 0, a_0.getD (2 : Int).toNat 0, a_0.getD (3 : Int).toNat 0, a_0.getD (4 : Int).toNat 0, a_0.getD (5 : Int).toNat 0, a_0.getD (6 : Int).toNat 0, a_0.getD (7 : Int).toNat 0, 0) _ _ _ (h.sub [0, 1, 2, 3, 4, 5, 6, 7, 8, 9, 10, 11, 12, 13, 14, 15, 16] (by rfl)) hl115) ?_
            · clear hl115 hF h
              intro s a w o h hF
              obtain ⟨x80, x81, x82, x83, x84, x85, x86, x87, x88⟩ := s
              change ref01_Block.b3 r4 y72 x80 x81 x82 x83 x84 x85 x86 x87 x88 = some o at hF
              unfold ref01_Block.b3 at hF
              change SatL c [.slot 2 (lpVP (b1 0) 0), .slot 4 (lpVP (b1 1) 0), .slot 5 (lpVP (b5 1) 0), .slot 6 (lpVP (b6 0) 0), .slot 11 (intVP .u32 x80), .slot 12 (intVP .u32 x81), .slot 13 (intVP .u32 x82), .slot 14 (intVP .u32 x83), .slot 15 (intVP .u32 x84), .slot 16 (intVP .u32 x85), .slot 17 (intVP .u32 x86), .slot 18 (intVP .u32 x87), .slot 19 (intVP .i64 x88), .res (lb (b1 0) 150 [intsCk .u32 8 a_0]), .res (lb (b1 1) 150 [intsCk .u32 8 (List.replicate 8 0)]), .res (lb (b5 1) 170 [intsCk .u32 64 r4]), .res (lb (b6 0) 170 [intsCk .u32 64 y72])] a w at h
              refine wp_seq ?_
              refine regS mixed hn hG h [0, 1, 2, 3, 4, 5, 6, 7, 8, 9, 10, 11, 12, 500, 13, 14, 15, 16] (ov [12] (op_move q0) <| ov [500] (op_bin bin_lss q0 qi) .nil) fun _ a w h => ?_
              refine cnd h hF 13 [0, 1, 2, 3, 4, 5, 6, 7, 8, 9, 10, 11, 12, 14, 15, 16, 17] [0, 1, 2, 3, 4, 5, 6, 7, 8, 9, 10, 11, 12, 14, 15, 16, 17] (fun hb106 hF h => ?_) (fun hb106 hF h => ?_)
              · refine wp_skip ?_
                show Code.wp Tryd.prog _ _ a w
                refine wp_seq ?_
                refine wp_block ?_
                obtain ⟨r107, hr107, hF⟩ := bind_some hF
                obtain ⟨r108, hr108, hF⟩ := bind_some hF
                obtain ⟨r109, hr109, hF⟩ := bind_some hF
                obtain ⟨hv110, hF⟩ := ite_some hF
                refine regS mixed hn hG h [0, 1, 2, 3, 4, 5, 6, 7, 8, 9, 10, 12, 500, 13, 14, 15, 16] (ov [11] (op_move q0) <| ov [8] (op_move q0) <| oc [500] [] Tryd.call106 (ref01_turn_ok hr107) ⟨q0, qi, trivial⟩ <| ov [8] (op_move q0) <| oc [500] [] Tryd.call106 (ref01_turn_ok hr108) ⟨q0, qi, trivial⟩ <| ov [502, 500] (op_bin bin_xor q0 q1) <| ov [8] (op_move q0) <| oc [500] [] Tryd.call106 (ref01_turn_ok hr109) ⟨q0, qi, trivial⟩ <| ov [502, 500] (op_bin bin_xor q0 q1) <| ov [508, 500] (op_bin bin_add q0 q1) <| ov [8] (op_move q0) <| ov [9] (op_move q0) <| ov [501, 500] (op_bin bin_and q0 q1) <| ov [8] (op_move q0) <| ov [500] (op_bin bin_xor qi q0) <| ov [10] (op_move q0) <| ov [501, 500] (op_bin bin_and q0 q1) <| ov [504, 500] (op_bin bin_xor q0 q1) <| ov [508, 500] (op_bin bin_add q0 q1) <| ov [12] (op_move q0) <| ov [2, 500] (op_indexAddr_lb Tryd.underlying170 Tryd.sizeOf51 q0 q1 hv110) <| ov [500, 15] (op_load_lbI (i := x88) [] [] 1 Tryd.isAgg51 q0 rfl rfl hv110) <| ov [503, 500] (op_bin bin_add q0 q1) <| ov [12] (op_move q0) <| ov [3, 500] (op_indexAddr_lb Tryd.underlying170 Tryd.sizeOf51 q0 q1 hv110) <| ov [500, 16] (op_load_lbI (i := x88) [] [] 1 Tryd.isAgg51 q0 rfl rfl hv110) <| ov [503, 500] (op_bin bin_add q0 q1) <| ov [500] (op_assign q0) .nil) fun _ a w h => ?_
                obtain ⟨r111, hr111, hF⟩ := bind_some hF
                obtain ⟨r112, hr112, hF⟩ := bind_some hF
                obtain ⟨r113, hr113, hF⟩ := bind_some hF
                refine regS mixed hn hG h [0, 1, 2, 3, 4, 5, 6, 7, 8, 9, 10, 11, 12, 500, 13, 14, 15, 16] (ov [4] (op_move q0) <| oc [500] [] Tryd.call106 (ref01_turn_ok hr111) ⟨q0, qi, trivial⟩ <| ov [4] (op_move q0) <| oc [500] [] Tryd.call106 (ref01_turn_ok hr112) ⟨q0, qi, trivial⟩ <| ov [502, 500] (op_bin bin_xor q0 q1) <| ov [4] (op_move q0) <| oc [500] [] Tryd.call106 (ref01_turn_ok hr113) ⟨q0, qi, trivial⟩ <| ov [502, 500] (op_bin bin_xor q0 q1) <| ov [4] (op_move q0) <| ov [5] (op_move q0) <| ov [501, 500] (op_bin bin_and q0 q1) <| ov [4] (op_move q0) <| ov [6] (op_move q0) <| ov [501, 500] (op_bin bin_and q0 q1) <| ov [503, 500] (op_bin bin_xor q0 q1) <| ov [5] (op_move q0) <| ov [6] (op_move q0) <| ov [501, 500] (op_bin bin_and q0 q1) <| ov [503, 500] (op_bin bin_xor q0 q1) <| ov [511, 500] (op_bin bin_add q0 q1) <| ov [500] (op_assign q0) .nil) fun _ a w h => ?_
                refine regS mixed hn hG h [0, 1, 2, 3, 4, 5, 6, 7, 8, 9, 500, 11, 12, 13, 14, 15, 16, 17] (ov [10] (op_move q0) <| ov [500] (op_assign q0) .nil) fun _ a w h => ?_
                refine regS mixed hn hG h [0, 1, 2, 3, 4, 5, 6, 7, 8, 500, 10, 11, 12, 13, 14, 15, 16, 17] (ov [9] (op_move q0) <| ov [500] (op_assign q0) .nil) fun _ a w h => ?_
                refine regS mixed hn hG h [0, 1, 2, 3, 4, 5, 6, 7, 500, 9, 10, 11, 12, 13, 14, 15, 16, 17] (ov [8] (op_move q0) <| ov [500] (op_assign q0) .nil) fun _ a w h => ?_
                refine regS mixed hn hG h [0, 1, 2, 3, 4, 5, 6, 500, 8, 9, 10, 11, 12, 13, 14, 15, 16, 17] (ov [7] (op_move q0) <| ov [12] (op_move q0) <| ov [501, 500] (op_bin bin_add q0 q1) <| ov [500] (op_assign q0) .nil) fun _ a w h => ?_
                refine regS mixed hn hG h [0, 1, 2, 3, 4, 5, 500, 7, 8, 9, 10, 11, 12, 13, 14, 15, 16, 17] (ov [6] (op_move q0) <| ov [500] (op_assign q0) .nil) fun _ a w h => ?_
                refine regS mixed hn hG h [0, 1, 2, 3, 4, 500, 6, 7, 8, 9, 10, 11, 12, 13, 14, 15, 16, 17] (ov [5] (op_move q0) <| ov [500] (op_assign q0) .nil) fun _ a w h => ?_
                refine regS mixed hn hG h [0, 1, 2, 3, 500, 5, 6, 7, 8, 9, 10, 11, 12, 13, 14, 15, 16, 17] (ov [4] (op_move q0) <| ov [500] (op_assign q0) .nil) fun _ a w h => ?_
                refine reg mixed hn hG h [0, 1, 2, 3, 500, 4, 5, 6, 7, 8, 9, 10, 11, 14, 15, 16, 17] (ov [12] (op_move q0) <| ov [13] (op_move q0) <| ov [501, 500] (op_bin bin_add q0 q1) <| ov [500] (op_assign q0) .nil) fun _ a w h => ?_
                show Code.wp Tryd.prog _ _ a w
                refine reg mixed hn hG h [0, 1, 2, 3, 4, 5, 6, 7, 8, 9, 10, 11, 500, 13, 14, 15, 16] (ov [12] (op_move q0) <| ov [500] (op_bin bin_add q0 qi) <| od [500] 12 (op_assign q0) .nil) fun _ a w h => ?_
                obtain rfl := Option.some.inj hF
                exact ⟨rfl, h.sub [0, 1, 2, 3, 4, 5, 6, 7, 8, 9, 10, 11, 12, 13, 14, 15, 16] (by rfl)⟩
              · refine wp_exit ?_
                obtain rfl := Option.some.inj hF
                exact ⟨exit_ne _, rfl, h.sub [0, 1, 4, 5, 6, 7, 8, 9, 10, 11, 13, 14] (by rfl)⟩
            · clear hl115
              intro e a w hq
              cases cr114 with
              | ret r116 =>
                obtain ⟨rfl, hq⟩ := hq
                obtain rfl := Option.some.inj hF
                exact ⟨.inl rfl, hq⟩
              | next s117 =>
                obtain ⟨y118, y119, y120, y121, y122, y123, y124, y125, y126⟩ := s117
                obtain ⟨rfl, h⟩ := hq
                change SatL c [.slot 2 (lpVP (b1 0) 0), .slot 4 (lpVP (b1 1) 0), .slot 11 (intVP .u32 y118), .slot 12 (intVP .u32 y119), .slot 13 (intVP .u32 y120), .slot 14 (intVP .u32 y121), .slot 15 (intVP .u32 y122), .slot 16 (intVP .u32 y123), .slot 17 (intVP .u32 y124), .slot 18 (intVP .u32 y125), .res (lb (b1 0) 150 [intsCk .u32 8 a_0]), .res (lb (b1 1) 150 [intsCk .u32 8 (List.replicate 8 0)])] a w at h
                refine inBlock_at ?_
                show Code.wp Tryd.prog _ _ a w
                refine regS mixed hn hG h [1, 500] (ov [0] (op_indexAddr_lb Tryd.underlying150 Tryd.sizeOf51 q0 qi (by decide)) <| ov [500, 10] (op_load_lbI (i := 0) [] [] 1 Tryd.isAgg51 q0 rfl rfl (by decide)) <| ov [2] (op_move q0) <| ov [501, 500] (op_bin bin_add q0 q1) <| ov [0] (op_indexAddr_lb Tryd.underlying150 Tryd.sizeOf51 q0 qi (by decide)) <| ov [500, 10] (op_load_lbI (i := 1) [] [] 1 Tryd.isAgg51 q0 rfl rfl (by decide)) <| ov [3] (op_move q0) <| ov [501, 500] (op_bin bin_add q0 q1) <| ov [0] (op_indexAddr_lb Tryd.underlying150 Tryd.sizeOf51 q0 qi (by decide)) <| ov [500, 10] (op_load_lbI (i := 2) [] [] 1 Tryd.isAgg51 q0 rfl rfl (by decide)) <| ov [4] (op_move q0) <| ov [501, 500] (op_bin bin_add q0 q1) <| ov [0] (op_indexAddr_lb Tryd.underlying150 Tryd.sizeOf51 q0 qi (by decide)) <| ov [500, 10] (op_load_lbI (i := 3) [] [] 1 Tryd.isAgg51 q0 rfl rfl (by decide)) <| ov [5] (op_move q0) <| ov [501, 500] (op_bin bin_add q0 q1) <| ov [0] (op_indexAddr_lb Tryd.underlying150 Tryd.sizeOf51 q0 qi (by decide)) <| ov [500, 10] (op_load_lbI (i := 4) [] [] 1 Tryd.isAgg51 q0 rfl rfl (by decide)) <| ov [6] (op_move q0) <| ov [501, 500] (op_bin bin_add q0 q1) <| ov [0] (op_indexAddr_lb Tryd.underlying150 Tryd.sizeOf51 q0 qi (by decide)) <| ov [500, 10] (op_load_lbI (i := 5) [] [] 1 Tryd.isAgg51 q0 rfl rfl (by decide)) <| ov [7] (op_move q0) <| ov [501, 500] (op_bin bin_add q0 q1) <| ov [0] (op_indexAddr_lb Tryd.underlying150 Tryd.sizeOf51 q0 qi (by decide)) <| ov [500, 10] (op_load_lbI (i := 6) [] [] 1 Tryd.isAgg51 q0 rfl rfl (by decide)) <| ov [8] (op_move q0) <| ov [501, 500] (op_bin bin_add q0 q1) <| ov [0] (op_indexAddr_lb Tryd.underlying150 Tryd.sizeOf51 q0 qi (by decide)) <| ov [500, 10] (op_load_lbI (i := 7) [] [] 1 Tryd.isAgg51 q0 rfl rfl (by decide)) <| ov [9] (op_move q0) <| ov [501, 500] (op_bin bin_add q0 q1) <| ov [528, 524, 520, 516, 512, 508, 504, 500] (op_buildI (xs := [.tmp 201, .tmp 205, .tmp 209, .tmp 213, .tmp 217, .tmp 221, .tmp 225, .tmp 229]) (ys := [IntKind.wrap .u32 ((a_0.getD (0 : Int).toNat 0) + y118), IntKind.wrap .u32 ((a_0.getD (1 : Int).toNat 0) + y119), IntKind.wrap .u32 ((a_0.getD (2 : Int).toNat 0) + y120), IntKind.wrap .u32 ((a_0.getD (3 : Int).toNat 0) + y121), IntKind.wrap .u32 ((a_0.getD (4 : Int).toNat 0) + y122), IntKind.wrap .u32 ((a_0.getD (5 : Int).toNat 0) + y123), IntKind.wrap .u32 ((a_0.getD (6 : Int).toNat 0) + y124), IntKind.wrap .u32 ((a_0.getD (7 : Int).toNat 0) + y125)]) rfl bu150 ⟨⟨_, q0, (cells_one (one_int _ _))⟩, ⟨_, q1, (cells_one (one_int _ _))⟩, ⟨_, q2, (cells_one (one_int _ _))⟩, ⟨_, q3, (cells_one (one_int _ _))⟩, ⟨_, (opt 4 rfl), (cells_one (one_int _ _))⟩, ⟨_, (opt 5 rfl), (cells_one (one_int _ _))⟩, ⟨_, (opt 6 rfl), (cells_one (one_int _ _))⟩, ⟨_, (opt 7 rfl), (cells_one (one_int _ _))⟩, trivial⟩ (by decide) rfl) <| ou [1, 500] 11 (op_store_w Tryd.sizeOf150 q0 q1 (cells_agg _)) .nil) fun _ a w h => ?_
                refine wp_ret ?_
                obtain rfl := Option.some.inj hF
                exact ⟨.inl rfl, ret1 h Tryd.results101 (r_cell 0 1 rfl rfl Tryd.isAgg150 Tryd.sizeOf150 rfl) [] [] rfl rfl rfl⟩

def ref01_After.b1 (x7 : List (UInt8)) (x8 : List Int) : Option (Flow ((List Int) × (List (UInt8))) ((List (UInt8)) × (List Int))) := (if (decide ((64 : Int) ≤ (x7.length : Int))) = true then (if (0 : Int) ≤ 0 ∧ (0 : Int) ≤ 64 ∧ (64 : Int) ≤ x7.length then ((ref01_Block x8 ((x7.take 64).drop (0 : Int).toNat)).bind fun r17 => (if (0 : Int) ≤ 64 ∧ (64 : Int) ≤ (x7.length : Int) ∧ (x7.length : Int) ≤ x7.length then some (.cont ((x7.take (x7.length : Int).toNat).drop 64, r17)) else none)) else none) else some (.brk (x7, x8)))
def ref01_After (a_0 : List Int) (a_1 : List (UInt8)) : Option ((List Int) × (List (UInt8))) := ((loopN (fun s : (List (UInt8)) × (List Int) => ref01_After.b1 s.1 s.2) (((a_1.length : Int) - 64 : Int).toNat + 2) (a_1, a_0)).bind fun cr => match cr with | .ret r => some r | .next (y23, y24) => some (y24, y23))
theorem ref01_After_ok {a_0 : List Int} {a_1 : List (UInt8)} {r : (List Int) × (List (UInt8))} (hF : ref01_After a_0 a_1 = some r) : CallOk Tryd.prog KG 90 [(aggVP [intsCk .u32 8 a_0]), (slVP bC a_1)] [] (fun _ => []) (tupVP [(aggVP [intsCk .u32 8 r.1]), (slVP bC r.2)]) := by
  refine CallOk.intro 17 Tryd.func90 rfl Tryd.ntmps90 (Nat.le_of_ble_eq_true rfl) ?_
  intro c a w hG hn h
  unfold ref01_After at hF
  change SatL c [.slot 0 (aggVP [intsCk .u32 8 a_0]), .slot 1 (slVP bC a_1)] a w at h
  refine regS mixed hn hG h [1, 504, 502, 503, 501] (ob [0] (op_box q0 (cells_agg _)) <| ob [] (op_alloc Tryd.zeroValue150 z150) <| ov [] (op_assign (opc (ec _))) .nil) fun b1 a w h => ?_
  refine wp_seq ?_
  refine wp_block ?_
  obtain ⟨cr19, hl20, hF⟩ := bind_some hF
  refine wp_mono (wp_loopN (R := (List Int) × (List (UInt8))) (S := (List (UInt8)) × (List Int)) (fun s a w => SatL c [.slot 1 (slVP bC s.1), .slot 2 (lpVP (b1 0) 0), .slot 4 (lpVP (b1 1) 0), .res (lb (b1 0) 150 [intsCk .u32 8 s.2]), .res (lb (b1 1) 150 [intsCk .u32 8 (List.replicate 8 0)])] a w) (fun res e a w => match res with | .next s => e = .exit 0 ∧ SatL c [.slot 1 (slVP bC s.1), .slot 2 (lpVP (b1 0) 0), .slot 4 (lpVP (b1 1) 0), .res (lb (b1 0) 150 [intsCk .u32 8 s.2]), .res (lb (b1 1) 150 [intsCk .u32 8 (List.replicate 8 0)])] a w | .ret r => e = .ret ∧ RetOk Tryd.prog Tryd.f90 c (tupVP [(aggVP [intsCk .u32 8 r.1]), (slVP bC r.2)]) (fun _ => []) a w) ?_ _ (a_1, a_0) _ _ _ (h.sub [0, 1, 2, 3, 4] (by rfl)) hl20) ?_
  · clear hl20 hF h
    intro s a w o h hF
    obtain ⟨x7, x8⟩ := s
    change ref01_After.b1 x7 x8 = some o at hF
    unfold ref01_After.b1 at hF
    change SatL c [.slot 1 (slVP bC x7), .slot 2 (lpVP (b1 0) 0), .slot 4 (lpVP (b1 1) 0), .res (lb (b1 0) 150 [intsCk .u32 8 x8]), .res (lb (b1 1) 150 [intsCk .u32 8 (List.replicate 8 0)])] a w at h
    refine wp_seq ?_
    refine regS mixed hn hG h [0, 1, 2, 500, 3, 4] (ov [0] (op_move q0) <| ov [500] (op_len_sl Tryd.underlying129 q0) <| ov [500] (op_bin bin_geq q0 qi) .nil) fun _ a w h => ?_
    refine cnd h hF 3 [0, 1, 2, 4, 5] [0, 1, 2, 4, 5] (fun hb15 hF h => ?_) (fun hb15 hF h => ?_)
    · refine wp_skip ?_
      show Code.wp Tryd.prog _ _ a w
      refine wp_block ?_
      obtain ⟨hv16, hF⟩ := ite_some hF
      obtain ⟨r17, hr17, hF⟩ := bind_some hF
      refine regS mixed hn hG h [0, 1, 2, 500, 4] (ov [1, 3] (op_load_w 1 Tryd.isAgg150 Tryd.sizeOf150 q0) <| ov [0] (op_move q0) <| ov [500] (op_slice_sl (a := 0) (b := 64) Tryd.underlying129 Tryd.sizeOf5 lens_bC q0 rfl ⟨_, qi⟩ hv16) <| oc [502, 500] [] Tryd.call101 (ref01_Block_ok hr17) ⟨q0, q1, trivial⟩ <| ou [1, 500] 3 (op_store_w Tryd.sizeOf150 q0 q1 (cells_agg _)) .nil) fun _ a w h => ?_
      obtain ⟨hv18, hF⟩ := ite_some hF
      refine reg mixed hn hG h [500, 1, 2, 3, 4] (ov [0] (op_move q0) <| ov [500] (op_slice_sl (a := 64) (b := (x7.length : Int)) Tryd.underlying129 Tryd.sizeOf5 lens_bC q0 ⟨_, qi⟩ rfl hv18) <| od [500] 0 (op_assign q0) .nil) fun _ a w h => ?_
      obtain rfl := Option.some.inj hF
      exact ⟨rfl, h.sub [0, 1, 2, 3, 4] (by rfl)⟩
    · refine wp_exit ?_
      obtain rfl := Option.some.inj hF
      exact ⟨exit_ne _, rfl, h.sub [0, 1, 2, 3, 4] (by rfl)⟩
  · clear hl20
    intro e a w hq
    cases cr19 with
    | ret r21 =>
      obtain ⟨rfl, hq⟩ := hq
      obtain rfl := Option.some.inj hF
      exact ⟨.inl rfl, hq⟩
    | next s22 =>
      obtain ⟨y23, y24⟩ := s22
      obtain ⟨rfl, h⟩ := hq
      change SatL c [.slot 1 (slVP bC y23), .slot 2 (lpVP (b1 0) 0), .slot 4 (lpVP (b1 1) 0), .res (lb (b1 0) 150 [intsCk .u32 8 y24]), .res (lb (b1 1) 150 [intsCk .u32 8 (List.replicate 8 0)])] a w at h
      refine inBlock_at ?_
      show Code.wp Tryd.prog _ _ a w
      refine regS mixed hn hG h [2, 500, 501] (ov [1, 3] (op_load_w 1 Tryd.isAgg150 Tryd.sizeOf150 q0) <| ov [0] (op_move q0) <| ou [2, 501] 4 (op_store_w Tryd.sizeOf150 q0 q1 (cells_agg _)) <| ov [501] (op_assign q0) .nil) fun _ a w h => ?_
      refine wp_ret ?_
      obtain rfl := Option.some.inj hF
      exact ⟨.inl rfl, retn h (rs := [.cell 4 150, .tmp 5]) (Vs := [(aggVP [intsCk .u32 8 y24]), (slVP bC y23)]) Tryd.results90 (by decide) ⟨(r_cell 0 2 rfl rfl Tryd.isAgg150 Tryd.sizeOf150 rfl), (r_tmp 1 rfl), trivial⟩ [] [] rfl rfl rfl⟩

def ref01_First : Option (List Int) := some ([1779033703, 3144134277, 1013904242, 2773480762, 1359893119, 2600822924, 528734635, 1541459225] ++ List.replicate (8 - 8) 0)
theorem ref01_First_ok {r : (List Int)} (hF : ref01_First = some r) : CallOk Tryd.prog KG 91 [] [] (fun _ => []) (aggVP [intsCk .u32 8 r]) := by
  refine CallOk.intro 2 Tryd.func91 rfl Tryd.ntmps91 (Nat.le_of_ble_eq_true rfl) ?_
  intro c a w hG hn h
  unfold ref01_First at hF
  change SatL c [] a w at h
  refine regS mixed hn hG h [501, 500] (ob [] (op_alloc Tryd.zeroValue150 z150) .nil) fun b1 a w h => ?_
  refine regS mixed hn hG h [0, 500] (ov [] (op_buildI (xs := [.const (.int .u32 1779033703), .const (.int .u32 3144134277), .const (.int .u32 1013904242), .const (.int .u32 2773480762), .const (.int .u32 1359893119), .const (.int .u32 2600822924), .const (.int .u32 528734635), .const (.int .u32 1541459225)]) (ys := [1779033703, 3144134277, 1013904242, 2773480762, 1359893119, 2600822924, 528734635, 1541459225]) rfl bu150 ⟨⟨_, qi, (cells_one (one_int _ _))⟩, ⟨_, qi, (cells_one (one_int _ _))⟩, ⟨_, qi, (cells_one (one_int _ _))⟩, ⟨_, qi, (cells_one (one_int _ _))⟩, ⟨_, qi, (cells_one (one_int _ _))⟩, ⟨_, qi, (cells_one (one_int _ _))⟩, ⟨_, qi, (cells_one (one_int _ _))⟩, ⟨_, qi, (cells_one (one_int _ _))⟩, trivial⟩ (by decide) rfl) <| ou [0, 500] 1 (op_store_w Tryd.sizeOf150 q0 q1 (cells_agg _)) .nil) fun _ a w h => ?_
  refine wp_ret ?_
  obtain rfl := Option.some.inj hF
  exact ⟨.inl rfl, ret1 h Tryd.results91 (r_cell 0 1 rfl rfl Tryd.isAgg150 Tryd.sizeOf150 rfl) [] [] rfl rfl rfl⟩

def ref01_End.b1 (x11 : List (UInt8)) : Option (Flow (List UInt8) (List (UInt8))) := (if (!decide (((x11.length : Int).tmod 64) = (56 : Int))) = true then (if x11.length + [u8of 0].length ≤ mxl ∧ (x11.length + [u8of 0].length) * 1 ≤ 140737488355328 then some (.cont (x11 ++ [u8of 0])) else none) else some (.brk x11))
def ref01_End.b2 (a_2 : Int) (x29 : Int) (x30 : List (UInt8)) : Option (Flow (List UInt8) (Int × (List (UInt8)))) := (if (decide (x29 < (8 : Int))) = true then (if x30.length + [u8of (IntKind.wrap .u8 (shr .u64 (IntKind.wrap .u64 (8 * a_2)) (IntKind.wrap .u64 (IntKind.wrap .i64 (56 - (IntKind.wrap .i64 (8 * x29)))))))].length ≤ mxl ∧ (x30.length + [u8of (IntKind.wrap .u8 (shr .u64 (IntKind.wrap .u64 (8 * a_2)) (IntKind.wrap .u64 (IntKind.wrap .i64 (56 - (IntKind.wrap .i64 (8 * x29)))))))].length) * 1 ≤ 140737488355328 then some (.cont (IntKind.wrap .i64 (x29 + 1), x30 ++ [u8of (IntKind.wrap .u8 (shr .u64 (IntKind.wrap .u64 (8 * a_2)) (IntKind.wrap .u64 (IntKind.wrap .i64 (56 - (IntKind.wrap .i64 (8 * x29)))))))])) else none) else some (.brk (x29, x30)))
def ref01_End.b3 (r47 : (List Int) × (List (UInt8))) (x51 : Int) (x52 : List UInt8) : Option (Flow (List UInt8) (Int × (List UInt8))) := (if (decide (x51 < (32 : Int))) = true then (if (0 : Int) ≤ IntKind.wrap .i64 (x51.tdiv 4) ∧ IntKind.wrap .i64 (x51.tdiv 4) < 8 then (if (0 : Int) ≤ x51 ∧ x51 < 32 then some (.cont (IntKind.wrap .i64 (x51 + 1), x52.set x51.toNat (u8of (IntKind.wrap .u8 (shr .u32 (r47.1.getD (IntKind.wrap .i64 (x51.tdiv 4)).toNat 0) (IntKind.wrap .u64 (IntKind.wrap .i64 (24 - (IntKind.wrap .i64 (8 * (x51.tmod 4))))))))))) else none) else none) else some (.brk (x51, x52)))
def ref01_End (a_0 : List Int) (a_1 : List (UInt8)) (a_2 : Int) : Option (List UInt8) := (if ([] : List UInt8).length + a_1.length ≤ mxl ∧ (([] : List UInt8).length + a_1.length) * 1 ≤ 140737488355328 then (if (([] : List UInt8) ++ a_1).length + [u8of 128].length ≤ mxl ∧ ((([] : List UInt8) ++ a_1).length + [u8of 128].length) * 1 ≤ 140737488355328 then ((loopN (fun s : (List (UInt8)) => ref01_End.b1 s) 100000 ((([] : List UInt8) ++ a_1) ++ [u8of 128])).bind fun cr => match cr with | .ret r => some r | .next y25 => ((loopN (fun s : Int × (List (UInt8)) => ref01_End.b2 a_2 s.1 s.2) ((8 - 0 : Int).toNat + 2) (0, y25)).bind fun cr => match cr with | .ret r => some r | .next (y45, y46) => ((ref01_After a_0 y46).bind fun r47 => ((loopN (fun s : Int × (List UInt8) => ref01_End.b3 r47 s.1 s.2) ((32 - 0 : Int).toNat + 2) (0, (List.replicate 32 0))).bind fun cr => match cr with | .ret r => some r | .next (y65, y66) => some y66)))) else none) else none)
theorem ref01_End_ok {a_0 : List Int} {a_1 : List (UInt8)} {a_2 : Int} {r : (List UInt8)} (hF : ref01_End a_0 a_1 a_2 = some r) : CallOk Tryd.prog KG 92 [(aggVP [intsCk .u32 8 a_0]), (slVP bC a_1), (intVP .u64 a_2)] [] (fun _ => []) (aggVP [bytesCk 32 r]) := by
  refine CallOk.intro 65 Tryd.func92 rfl Tryd.ntmps92 (Nat.le_of_ble_eq_true rfl) ?_
  intro c a w hG hn h
  unfold ref01_End at hF
  change SatL c [.slot 0 (aggVP [intsCk .u32 8 a_0]), .slot 1 (slVP bC a_1), .slot 2 (intVP .u64 a_2)] a w at h
  refine regS mixed hn hG h [1, 2, 503, 501, 502, 500] (ob [0] (op_box q0 (cells_agg _)) <| ob [] (op_alloc Tryd.zeroValue23 z23) .nil) fun b1 a w h => ?_
  refine regS mixed hn hG h [0, 1, 2, 3, 500, 4, 5] (ov [] (op_assign (opc (ec _))) .nil) fun _ a w h => ?_
  obtain ⟨q3, h⟩ : ∃ q3 : Value, SatL c [.slot 1 (slVP bC a_1), .slot 2 (intVP .u64 a_2), .slot 3 (lpVP (b1 0) 0), .slot 6 (lpVP (b1 1) 0), .slot 7 (eqVP q3), .res (lb (b1 0) 150 [intsCk .u32 8 a_0]), .res (lb (b1 1) 23 [bytesCk 32 (List.replicate 32 0)]), .res (acc q3 5 1 bC ([] : List UInt8))] a w := ⟨.slice none 0 0, (h.nilacc 5 1 bC).sub [0, 1, 2, 3, 4, 5, 6, 7] (by rfl)⟩
  obtain ⟨hv4, hF⟩ := ite_some hF
  refine regS mixed hn hG h [1, 2, 3, 500, 5, 6, 501] (ov [4] (op_move q0) <| ov [0] (op_move q0) <| og [501, 500] [7] [.slot 14 2 100000 (fun v1_ _ => (eqVP v1_)), .res 2 100000 (fun v1_ _ => (acc (v1_) 5 1 bC (([] : List UInt8) ++ a_1)))] (GOk.plain (op_append (i := Tryd.t5) Tryd.underlying129 Tryd.type5 rfl lens_bC (by decide) rfl q0 q1 hv4) rfl) <| og [501] [4] [.slot 7 2 100000 (fun v1_ _ => (eqVP v1_))] (fun {β} => (GOk.drop _ (GOk.plain (op_assign (V := (eqVP (β 2))) q0) rfl))) .nil) fun b5 a w h => ?_
  obtain ⟨hv6, hF⟩ := ite_some hF
  refine regS mixed hn hG h [0, 1, 2, 500, 4, 5, 501] (ov [3] (op_move q0) <| ov [] (op_lit (xs := [.const (.int .u8 128)]) (ys := [u8of 128]) _ rfl Tryd.underlying129 Tryd.sizeOf5 Tryd.zeroValue5 rfl rfl (by decide) (by decide) ⟨⟨_, qi, (cells_u8 _)⟩, trivial⟩ lens_bC) <| og [501, 500] [6] [.slot 17 2 100000 (fun v1_ _ => (eqVP v1_)), .res 2 100000 (fun v1_ _ => (acc (v1_) 5 1 bC ((([] : List UInt8) ++ a_1) ++ [u8of 128])))] (GOk.plain (op_append (i := Tryd.t5) Tryd.underlying129 Tryd.type5 rfl lens_bC (by decide) rfl q0 q1 hv6) rfl) <| og [501] [3] [.slot 7 2 100000 (fun v1_ _ => (eqVP v1_))] (fun {β} => (GOk.drop _ (GOk.plain (op_assign (V := (eqVP (β 2))) q0) rfl))) .nil) fun b7 a w h => ?_
  refine wp_seq ?_
  refine wp_block ?_
  obtain ⟨cr21, hl22, hF⟩ := bind_some hF
  refine wp_mono (wp_loopN (R := (List UInt8)) (S := (List (UInt8))) (fun s a w => ∃ q12 : Value, SatL c [.slot 2 (intVP .u64 a_2), .slot 3 (lpVP (b1 0) 0), .slot 6 (lpVP (b1 1) 0), .slot 7 (eqVP q12), .res (lb (b1 0) 150 [intsCk .u32 8 a_0]), .res (lb (b1 1) 23 [bytesCk 32 (List.replicate 32 0)]), .res (acc q12 5 1 bC s)] a w) (fun res e a w => match res with | .next s => e = .exit 0 ∧ ∃ q12 : Value, SatL c [.slot 2 (intVP .u64 a_2), .slot 3 (lpVP (b1 0) 0), .slot 6 (lpVP (b1 1) 0), .slot 7 (eqVP q12), .res (lb (b1 0) 150 [intsCk .u32 8 a_0]), .res (lb (b1 1) 23 [bytesCk 32 (List.replicate 32 0)]), .res (acc q12 5 1 bC s)] a w | .ret r => e = .ret ∧ RetOk Tryd.prog Tryd.f92 c (aggVP [bytesCk 32 r]) (fun _ => []) a w) ?_ _ ((([] : List UInt8) ++ a_1) ++ [u8of 128]) _ _ _ ⟨(b7 2), (h.sub [0, 1, 2, 3, 4, 5, 6] (by rfl))⟩ hl22) ?_
  · clear hl22 hF h
    intro x11 a w o h hF
    obtain ⟨q12, h⟩ := h
    change ref01_End.b1 x11 = some o at hF
    unfold ref01_End.b1 at hF
    change SatL c [.slot 2 (intVP .u64 a_2), .slot 3 (lpVP (b1 0) 0), .slot 6 (lpVP (b1 1) 0), .slot 7 (eqVP q12), .res (lb (b1 0) 150 [intsCk .u32 8 a_0]), .res (lb (b1 1) 23 [bytesCk 32 (List.replicate 32 0)]), .res (acc q12 5 1 bC x11)] a w at h
    refine wp_seq ?_
    refine regS mixed hn hG h [0, 1, 2, 3, 500, 4, 5, 6] (ov [3] (op_move q0) <| ov [500, 6] (op_len_sl Tryd.underlying129 (opacc 0 1 rfl rfl)) <| ov [500] (op_bin (bin_rem (by decide)) q0 qi) <| ov [500] (op_bin bin_neq q0 qi) .nil) fun _ a w h => ?_
    refine cnd h hF 4 [0, 1, 2, 3, 5, 6, 7] [0, 1, 2, 3, 5, 6, 7] (fun hb18 hF h => ?_) (fun hb18 hF h => ?_)
    · refine wp_skip ?_
      show Code.wp Tryd.prog _ _ a w
      refine wp_block ?_
      obtain ⟨hv19, hF⟩ := ite_some hF
      refine reg mixed hn hG h [0, 1, 2, 500, 4, 5, 501] (ov [3] (op_move q0) <| ov [] (op_lit (xs := [.const (.int .u8 0)]) (ys := [u8of 0]) _ rfl Tryd.underlying129 Tryd.sizeOf5 Tryd.zeroValue5 rfl rfl (by decide) (by decide) ⟨⟨_, qi, (cells_u8 _)⟩, trivial⟩ lens_bC) <| og [501, 500] [6] [.slot 24 2 100000 (fun v1_ _ => (eqVP v1_)), .res 2 100000 (fun v1_ _ => (acc (v1_) 5 1 bC (x11 ++ [u8of 0])))] (GOk.plain (op_append (i := Tryd.t5) Tryd.underlying129 Tryd.type5 rfl lens_bC (by decide) rfl q0 q1 hv19) rfl) <| og [501] [3] [.slot 7 2 100000 (fun v1_ _ => (eqVP v1_))] (fun {β} => (GOk.drop _ (GOk.plain (op_assign (V := (eqVP (β 2))) q0) rfl))) .nil) fun b20 a w h => ?_
      obtain rfl := Option.some.inj hF
      exact ⟨rfl, (b20 2), h.sub [0, 1, 2, 3, 4, 5, 6] (by rfl)⟩
    · refine wp_exit ?_
      obtain rfl := Option.some.inj hF
      exact ⟨exit_ne _, rfl, q12, h.sub [0, 1, 2, 3, 4, 5, 6] (by rfl)⟩
  · clear hl22
    intro e a w hq
    cases cr21 with
    | ret r23 =>
      obtain ⟨rfl, hq⟩ := hq
      obtain rfl := Option.some.inj hF
      exact ⟨.inl rfl, hq⟩
    | next y25 =>
      obtain ⟨rfl, q12, h⟩ := hq
      change SatL c [.slot 2 (intVP .u64 a_2), .slot 3 (lpVP (b1 0) 0), .slot 6 (lpVP (b1 1) 0), .slot 7 (eqVP q12), .res (lb (b1 0) 150 [intsCk .u32 8 a_0]), .res (lb (b1 1) 23 [bytesCk 32 (List.replicate 32 0)]), .res (acc q12 5 1 bC y25)] a w at h
      refine inBlock_at ?_
      show Code.wp Tryd.prog _ _ a w
      refine regS mixed hn hG h [1, 2, 3, 500, 4, 5, 6] (ov [0] (op_move q0) <| ov [500] (op_bin bin_mul qi q0) <| ov [500] (op_assign q0) .nil) fun _ a w h => ?_
      refine wp_seq ?_
      refine regS mixed hn hG h [0, 1, 2, 3, 500, 4, 5, 6] (ov [] (op_assign qi) .nil) fun _ a w h => ?_
      refine wp_block ?_
      obtain ⟨cr41, hl42, hF⟩ := bind_some hF
      refine wp_mono (wp_loopN (R := (List UInt8)) (S := Int × (List (UInt8))) (fun s a w => ∃ q31 : Value, SatL c [.slot 3 (lpVP (b1 0) 0), .slot 6 (lpVP (b1 1) 0), .slot 7 (eqVP q31), .slot 8 (intVP .u64 (IntKind.wrap .u64 (8 * a_2))), .slot 9 (intVP .i64 s.1), .res (lb (b1 0) 150 [intsCk .u32 8 a_0]), .res (lb (b1 1) 23 [bytesCk 32 (List.replicate 32 0)]), .res (acc q31 5 1 bC s.2)] a w) (fun res e a w => match res with | .next s => e = .exit 2 ∧ ∃ q31 : Value, SatL c [.slot 3 (lpVP (b1 0) 0), .slot 6 (lpVP (b1 1) 0), .slot 7 (eqVP q31), .res (lb (b1 0) 150 [intsCk .u32 8 a_0]), .res (lb (b1 1) 23 [bytesCk 32 (List.replicate 32 0)]), .res (acc q31 5 1 bC s.2)] a w | .ret r => e = .ret ∧ RetOk Tryd.prog Tryd.f92 c (aggVP [bytesCk 32 r]) (fun _ => []) a w) ?_ _ (0, y25) _ _ _ ⟨q12, (h.sub [0, 1, 2, 3, 4, 5, 6, 7] (by rfl))⟩ hl42) ?_
      · clear hl42 hF h
        intro s a w o h hF
        obtain ⟨x29, x30⟩ := s
        obtain ⟨q31, h⟩ := h
        change ref01_End.b2 a_2 x29 x30 = some o at hF
        unfold ref01_End.b2 at hF
        change SatL c [.slot 3 (lpVP (b1 0) 0), .slot 6 (lpVP (b1 1) 0), .slot 7 (eqVP q31), .slot 8 (intVP .u64 (IntKind.wrap .u64 (8 * a_2))), .slot 9 (intVP .i64 x29), .res (lb (b1 0) 150 [intsCk .u32 8 a_0]), .res (lb (b1 1) 23 [bytesCk 32 (List.replicate 32 0)]), .res (acc q31 5 1 bC x30)] a w at h
        refine wp_seq ?_
        refine regS mixed hn hG h [0, 1, 2, 3, 4, 500, 5, 6, 7] (ov [4] (op_move q0) <| ov [500] (op_bin bin_lss q0 qi) .nil) fun _ a w h => ?_
        refine cnd h hF 5 [0, 1, 2, 3, 4, 6, 7, 8] [0, 1, 2, 3, 4, 6, 7, 8] (fun hb38 hF h => ?_) (fun hb38 hF h => ?_)
        · refine wp_skip ?_
          show Code.wp Tryd.prog _ _ a w
          refine wp_seq ?_
          refine wp_block ?_
          obtain ⟨hv39, hF⟩ := ite_some hF
          refine reg mixed hn hG h [0, 1, 500, 3, 4, 5, 6, 501] (ov [2] (op_move q0) <| ov [3] (op_move q0) <| ov [4] (op_move q0) <| ov [500] (op_bin bin_mul qi q0) <| ov [500] (op_bin bin_sub qi q0) <| ov [500] (op_convert_int Tryd.underlying3 Tryd.underlying128 q0) <| ov [504, 500] (op_bin (bin_shru rfl) q0 q1) <| ov [500] (op_convert_int Tryd.underlying114 Tryd.underlying5 q0) <| ov [500] (op_lit (xs := [.tmp 38]) (ys := [u8of (IntKind.wrap .u8 (shr .u64 (IntKind.wrap .u64 (8 * a_2)) (IntKind.wrap .u64 (IntKind.wrap .i64 (56 - (IntKind.wrap .i64 (8 * x29)))))))]) _ rfl Tryd.underlying129 Tryd.sizeOf5 Tryd.zeroValue5 rfl rfl (by decide) (by decide) ⟨⟨_, q0, (cells_u8 _)⟩, trivial⟩ lens_bC) <| og [508, 500] [7] [.slot 40 9 100000 (fun v1_ _ => (eqVP v1_)), .res 9 100000 (fun v1_ _ => (acc (v1_) 5 1 bC (x30 ++ [u8of (IntKind.wrap .u8 (shr .u64 (IntKind.wrap .u64 (8 * a_2)) (IntKind.wrap .u64 (IntKind.wrap .i64 (56 - (IntKind.wrap .i64 (8 * x29)))))))])))] (GOk.plain (op_append (i := Tryd.t5) Tryd.underlying129 Tryd.type5 rfl lens_bC (by decide) rfl q0 q1 hv39) rfl) <| og [501] [2] [.slot 7 9 100000 (fun v1_ _ => (eqVP v1_))] (fun {β} => (GOk.drop _ (GOk.plain (op_assign (V := (eqVP (β 9))) q0) rfl))) .nil) fun b40 a w h => ?_
          show Code.wp Tryd.prog _ _ a w
          refine reg mixed hn hG h [0, 1, 2, 3, 500, 5, 6, 7] (ov [4] (op_move q0) <| ov [500] (op_bin bin_add q0 qi) <| od [500] 4 (op_assign q0) .nil) fun _ a w h => ?_
          obtain rfl := Option.some.inj hF
          exact ⟨rfl, (b40 9), h.sub [0, 1, 2, 3, 4, 5, 6, 7] (by rfl)⟩
        · refine wp_exit ?_
          obtain rfl := Option.some.inj hF
          exact ⟨exit_ne _, rfl, q31, h.sub [0, 1, 2, 5, 6, 7] (by rfl)⟩
      · clear hl42
        intro e a w hq
        cases cr41 with
        | ret r43 =>
          obtain ⟨rfl, hq⟩ := hq
          obtain rfl := Option.some.inj hF
          exact ⟨.inl rfl, hq⟩
        | next s44 =>
          obtain ⟨y45, y46⟩ := s44
          obtain ⟨rfl, q31, h⟩ := hq
          change SatL c [.slot 3 (lpVP (b1 0) 0), .slot 6 (lpVP (b1 1) 0), .slot 7 (eqVP q31), .res (lb (b1 0) 150 [intsCk .u32 8 a_0]), .res (lb (b1 1) 23 [bytesCk 32 (List.replicate 32 0)]), .res (acc q31 5 1 bC y46)] a w at h
          refine inBlock_at ?_
          show Code.wp Tryd.prog _ _ a w
          obtain ⟨r47, hr47, hF⟩ := bind_some hF
          refine regS mixed hn hG h [0, 1, 500, 4] (ov [0, 3] (op_load_w 1 Tryd.isAgg150 Tryd.sizeOf150 q0) <| ov [2] (op_move q0) <| oc [501, 500, 5] [] Tryd.call90 (ref01_After_ok hr47) ⟨q0, (opacc 1 2 rfl rfl), trivial⟩ <| ov [500] (op_move q0) <| ov [500] (op_extract q0 rfl) <| ov [501] (op_extract q0 rfl) <| ou [0, 501] 3 (op_store_w Tryd.sizeOf150 q0 q1 (cells_agg _)) .nil) fun _ a w h => ?_
          refine regS mixed hn hG h [0, 1, 501, 2, 3, 500] (ob [] (op_alloc Tryd.zeroValue23 z23) .nil) fun b48 a w h => ?_
          refine wp_seq ?_
          refine regS mixed hn hG h [0, 1, 2, 500, 3, 4, 5] (ov [] (op_assign qi) .nil) fun _ a w h => ?_
          refine wp_block ?_
          obtain ⟨cr61, hl62, hF⟩ := bind_some hF
          refine wp_mono (wp_loopN (R := (List UInt8)) (S := Int × (List UInt8)) (fun s a w => SatL c [.slot 3 (lpVP (b1 0) 0), .slot 6 (lpVP (b1 1) 0), .slot 10 (lpVP (b48 0) 0), .slot 11 (intVP .i64 s.1), .res (lb (b1 0) 150 [intsCk .u32 8 r47.1]), .res (lb (b1 1) 23 [bytesCk 32 (List.replicate 32 0)]), .res (lb (b48 0) 23 [bytesCk 32 s.2])] a w) (fun res e a w => match res with | .next s => e = .exit 4 ∧ SatL c [.slot 6 (lpVP (b1 1) 0), .slot 10 (lpVP (b48 0) 0), .res (lb (b1 1) 23 [bytesCk 32 (List.replicate 32 0)]), .res (lb (b48 0) 23 [bytesCk 32 s.2])] a w | .ret r => e = .ret ∧ RetOk Tryd.prog Tryd.f92 c (aggVP [bytesCk 32 r]) (fun _ => []) a w) ?_ _ (0, (List.replicate 32 0)) _ _ _ (h.sub [0, 1, 2, 3, 4, 5, 6] (by rfl)) hl62) ?_
          · clear hl62 hF h
            intro s a w o h hF
            obtain ⟨x51, x52⟩ := s
            change ref01_End.b3 r47 x51 x52 = some o at hF
            unfold ref01_End.b3 at hF
            change SatL c [.slot 3 (lpVP (b1 0) 0), .slot 6 (lpVP (b1 1) 0), .slot 10 (lpVP (b48 0) 0), .slot 11 (intVP .i64 x51), .res (lb (b1 0) 150 [intsCk .u32 8 r47.1]), .res (lb (b1 1) 23 [bytesCk 32 (List.replicate 32 0)]), .res (lb (b48 0) 23 [bytesCk 32 x52])] a w at h
            refine wp_seq ?_
            refine regS mixed hn hG h [0, 1, 2, 3, 500, 4, 5, 6] (ov [3] (op_move q0) <| ov [500] (op_bin bin_lss q0 qi) .nil) fun _ a w h => ?_
            refine cnd h hF 4 [0, 1, 2, 3, 5, 6, 7] [0, 1, 2, 3, 5, 6, 7] (fun hb58 hF h => ?_) (fun hb58 hF h => ?_)
            · refine wp_skip ?_
              show Code.wp Tryd.prog _ _ a w
              refine wp_seq ?_
              refine wp_block ?_
              obtain ⟨hv59, hF⟩ := ite_some hF
              obtain ⟨hv60, hF⟩ := ite_some hF
              refine reg mixed hn hG h [0, 1, 2, 3, 4, 5, 500] (ov [3] (op_move q0) <| ov [3] (op_move q0) <| ov [500] (op_bin (bin_quo (by decide)) q0 qi) <| ov [0, 500] (op_indexAddr_lb Tryd.underlying150 Tryd.sizeOf51 q0 q1 hv59) <| ov [500, 4] (op_load_lbI (i := IntKind.wrap .i64 (x51.tdiv 4)) [] [] 1 Tryd.isAgg51 q0 rfl rfl hv59) <| ov [3] (op_move q0) <| ov [500] (op_bin (bin_rem (by decide)) q0 qi) <| ov [500] (op_bin bin_mul qi q0) <| ov [500] (op_bin bin_sub qi q0) <| ov [500] (op_convert_int Tryd.underlying3 Tryd.underlying128 q0) <| ov [505, 500] (op_bin (bin_shru rfl) q0 q1) <| ov [500] (op_convert_int Tryd.underlying51 Tryd.underlying5 q0) <| ov [2, 511] (op_indexAddr_lb Tryd.underlying23 Tryd.sizeOf5 q0 q1 hv60) <| ou [500, 501] 6 (op_store_lbB (i := x51) [] [] Tryd.sizeOf5 q0 q1 rfl hv60) .nil) fun _ a w h => ?_
              show Code.wp Tryd.prog _ _ a w
              refine reg mixed hn hG h [0, 1, 2, 500, 4, 5, 6] (ov [3] (op_move q0) <| ov [500] (op_bin bin_add q0 qi) <| od [500] 3 (op_assign q0) .nil) fun _ a w h => ?_
              obtain rfl := Option.some.inj hF
              exact ⟨rfl, h.sub [0, 1, 2, 3, 4, 5, 6] (by rfl)⟩
            · refine wp_exit ?_
              obtain rfl := Option.some.inj hF
              exact ⟨exit_ne _, rfl, h.sub [1, 2, 5, 6] (by rfl)⟩
          · clear hl62
            intro e a w hq
            cases cr61 with
            | ret r63 =>
              obtain ⟨rfl, hq⟩ := hq
              obtain rfl := Option.some.inj hF
              exact ⟨.inl rfl, hq⟩
            | next s64 =>
              obtain ⟨y65, y66⟩ := s64
              obtain ⟨rfl, h⟩ := hq
              change SatL c [.slot 6 (lpVP (b1 1) 0), .slot 10 (lpVP (b48 0) 0), .res (lb (b1 1) 23 [bytesCk 32 (List.replicate 32 0)]), .res (lb (b48 0) 23 [bytesCk 32 y66])] a w at h
              refine inBlock_at ?_
              show Code.wp Tryd.prog _ _ a w
              refine regS mixed hn hG h [0, 500] (ov [1, 3] (op_load_w 1 Tryd.isAgg23 Tryd.sizeOf23 q0) <| ou [0, 500] 2 (op_store_w Tryd.sizeOf23 q0 q1 (cells_agg _)) .nil) fun _ a w h => ?_
              refine wp_ret ?_
              obtain rfl := Option.some.inj hF
              exact ⟨.inl rfl, ret1 h Tryd.results92 (r_cell 0 1 rfl rfl Tryd.isAgg23 Tryd.sizeOf23 rfl) [] [] rfl rfl rfl⟩

def ref01_Sum (a_0 : List UInt8) : Option (List UInt8) := ((ref01_First).bind fun r2 => ((ref01_After r2 a_0).bind fun r3 => ((ref01_End r3.1 r3.2 (IntKind.wrap .u64 (a_0.length : Int))).bind fun r5 => some r5)))
theorem ref01_Sum_ok {a_0 : List UInt8} {r : (List UInt8)} (hF : ref01_Sum a_0 = some r) : CallOk Tryd.prog KG 78 [(strVP a_0)] [] (fun _ => []) (aggVP [bytesCk 32 r]) := by
  refine CallOk.intro 18 Tryd.func78 rfl Tryd.ntmps78 (Nat.le_of_ble_eq_true rfl) ?_
  intro c a w hG hn h
  unfold ref01_Sum at hF
  change SatL c [.slot 0 (strVP a_0)] a w at h
  refine regS mixed hn hG h [0, 501, 500] (ob [] (op_alloc Tryd.zeroValue23 z23) .nil) fun b1 a w h => ?_
  obtain ⟨r2, hr2, hF⟩ := bind_some hF
  obtain ⟨r3, hr3, hF⟩ := bind_some hF
  refine regS mixed hn hG h [0, 1, 503, 500, 2, 501] (oc [] [] Tryd.call91 (ref01_First_ok hr2) trivial <| ov [0] (op_move q0) <| ov [500] (op_conv_str_sl Tryd.underlying9 Tryd.underlying129 Tryd.underlying5 q0) <| oc [502, 500] [] Tryd.call90 (ref01_After_ok hr3) ⟨q0, q1, trivial⟩ <| ov [500] (op_move q0) <| ov [500] (op_extract q0 rfl) <| ov [501] (op_extract q0 rfl) <| ob [] (op_alloc Tryd.zeroValue150 z150) <| og [501, 503] [500] [.res 7 100000 (fun v1_ _ => (lb (v1_) 150 [intsCk .u32 8 r3.1]))] (GOk.plain (op_store_w Tryd.sizeOf150 q0 q1 (cells_agg _)) rfl) <| ov [503] (op_assign q0) .nil) fun b4 a w h => ?_
  obtain ⟨r5, hr5, hF⟩ := bind_some hF
  refine regS mixed hn hG h [1, 500] (ov [2, 5] (op_load_w 1 Tryd.isAgg150 Tryd.sizeOf150 q0) <| ov [3] (op_move q0) <| ov [0] (op_move q0) <| ov [500] (op_len_str Tryd.underlying9 q0) <| ov [500] (op_convert_int Tryd.underlying3 Tryd.underlying114 q0) <| oc [504, 503, 500] [] Tryd.call92 (ref01_End_ok hr5) ⟨q0, q1, q2, trivial⟩ <| ou [1, 500] 4 (op_store_w Tryd.sizeOf23 q0 q1 (cells_agg _)) .nil) fun _ a w h => ?_
  refine wp_ret ?_
  obtain rfl := Option.some.inj hF
  exact ⟨.inl rfl, ret1 h Tryd.results78 (r_cell 0 1 rfl rfl Tryd.isAgg23 Tryd.sizeOf23 rfl) [] [] rfl rfl rfl⟩

def ref04_Log_Note.n (a_1 : List UInt8) (a_2 : List UInt8) : Option (Option O_RLog) := some none
def ref04_Log_Note.b1 (s_0 : O_RLog) (a_1 : List UInt8) (a_2 : List UInt8) (x8 : Int) : Option (Flow (Option O_RLog) Int) := (if (decide (x8 < (((lkp a_1 s_0.f_Digests).getD []).length : Int))) = true then (if (0 : Int) ≤ x8 ∧ x8 < ((lkp a_1 s_0.f_Digests).getD []).length then (if (decide ((((lkp a_1 s_0.f_Digests).getD []).getD x8.toNat default) = a_2)) = true then some (.ret (some s_0)) else some (.cont (IntKind.wrap .i64 (x8 + 1)))) else none) else some (.brk x8))
def ref04_Log_Note.s (s_0 : O_RLog) (a_1 : List UInt8) (a_2 : List UInt8) : Option (Option O_RLog) := ((loopN (fun s : Int => ref04_Log_Note.b1 s_0 a_1 a_2 s) (((((lkp a_1 s_0.f_Digests).getD []).length : Int) - 0 : Int).toNat + 2) 0).bind fun cr => match cr with | .ret r => some r | .next y20 => (if ((lkp a_1 s_0.f_Digests).getD ([] : List (List UInt8))).length + [a_2].length ≤ mxl ∧ (((lkp a_1 s_0.f_Digests).getD ([] : List (List UInt8))).length + [a_2].length) * 16 ≤ 140737488355328 then (if s_0.f_Inputs.length + [a_2].length ≤ mxl ∧ (s_0.f_Inputs.length + [a_2].length) * 16 ≤ 140737488355328 then some (some ⟨s_0.f_Inputs ++ [a_2], upd a_1 (((lkp a_1 s_0.f_Digests).getD ([] : List (List UInt8))) ++ [a_2]) (ens a_1 ([] : List (List UInt8)) s_0.f_Digests)⟩) else none) else none))
def ref04_Log_Note (L_0 : Option O_RLog) (a_1 : List UInt8) (a_2 : List UInt8) : Option (Option O_RLog) := match L_0 with | none => ref04_Log_Note.n a_1 a_2 | some s_0 => ref04_Log_Note.s s_0 a_1 a_2
theorem ref04_Log_Note_ok {p_0 : Value} {L_0 : Option O_RLog} {a_1 : List UInt8} {a_2 : List UInt8} {r : (Option O_RLog)} (hF : ref04_Log_Note L_0 a_1 a_2 = some r) : CallOk Tryd.prog KG 79 [(eqVP p_0), (aggVP [bytesCk 32 a_1]), (strVP a_2)] [(RLog_e p_0 L_0)] (fun _ => [RLog_e p_0 r]) (tupVP []) := by
  refine CallOk.intro 46 Tryd.func79 rfl Tryd.ntmps79 (Nat.le_of_ble_eq_true rfl) ?_
  intro c a w hG hn h
  unfold ref04_Log_Note at hF
  change SatL c [.slot 0 (eqVP p_0), .slot 1 (aggVP [bytesCk 32 a_1]), .slot 2 (strVP a_2), .res (RLog_e p_0 L_0)] a w at h
  obtain ⟨h_0_0, h⟩ := h.ex 3 rfl
  obtain ⟨h_0_1, h⟩ := h.ex 3 rfl
  change SatL c [.slot 0 (eqVP p_0), .slot 1 (aggVP [bytesCk 32 a_1]), .slot 2 (strVP a_2), .res (RLog_o p_0 h_0_0 h_0_1 L_0)] a w at h
  cases L_0 with
  | none =>
    change ref04_Log_Note.n a_1 a_2 = some r at hF
    unfold ref04_Log_Note.n at hF
    obtain rfl := h.isp 3 rfl (fun _ _ _ q => q.2)
    replace h := h.slotc 0 rfl (V' := ptrVP (.pointer none) false) (fun _ _ h => ⟨h, rfl⟩)
    change SatL c [.slot 0 (ptrVP (.pointer none) false), .slot 1 (aggVP [bytesCk 32 a_1]), .slot 2 (strVP a_2), .res (RLog_o (.pointer none) h_0_0 h_0_1 none)] a w at h
    refine regS mixed hn hG h [0, 2, 501, 3, 500] (ob [1] (op_box q0 (cells_agg _)) .nil) fun b1 a w h => ?_
    refine wp_seq ?_
    refine regS mixed hn hG h [0, 1, 2, 500, 3, 4] (ov [0] (op_move q0) <| ov [500] (op_bin (bin_pnil Tryd.underlying42) q0 (opc (ec _))) .nil) fun _ a w h => ?_
    refine cond_L h 3 rfl (fun hb2 => ?_) (fun hb2 => ?_)
    · skip
      replace h := h.sel [4]
      refine wp_ret ?_
      replace h := h.conv 0 rfl RLog_packo
      change SatL c [.res (RLog_e (.pointer none) none)] a w at h
      obtain rfl := Option.some.inj hF
      exact ⟨.inl rfl, retn h (rs := []) (Vs := []) Tryd.results79 (by decide) trivial [0] [(RLog_e (.pointer none) none)] rfl rfl rfl⟩
    · cases hb2
  | some s_0 =>
    change ref04_Log_Note.s s_0 a_1 a_2 = some r at hF
    unfold ref04_Log_Note.s at hF
    have hp := h.isp 3 rfl (fun Φ f w q => RLog_lp Φ f w q)
    replace h := h.slotc 0 rfl (V' := lpVP p_0 0) (fun _ _ h => eq_lp h hp)
    replace h := h.sep (R := lb p_0 103 [one (eqVP h_0_0), one (eqVP h_0_1)]) (S := (RP.sep (acc h_0_0 9 1 strC s_0.f_Inputs) (mapR h_0_1 arrK (fun l => l.length = 32) (fun u y => acc u 9 1 strC y) s_0.f_Digests))) 3 rfl
    replace h := h.sep (R := acc h_0_0 9 1 strC s_0.f_Inputs) (S := (mapR h_0_1 arrK (fun l => l.length = 32) (fun u y => acc u 9 1 strC y) s_0.f_Digests)) 4 rfl
    replace h := h.sub [0, 1, 2, 3, 4, 5] (by rfl)
    change SatL c [.slot 0 (lpVP p_0 0), .slot 1 (aggVP [bytesCk 32 a_1]), .slot 2 (strVP a_2), .res (lb p_0 103 [one (eqVP h_0_0), one (eqVP h_0_1)]), .res (acc h_0_0 9 1 strC s_0.f_Inputs), .res (mapR h_0_1 arrK (fun l => l.length = 32) (fun u y => acc u 9 1 strC y) s_0.f_Digests)] a w at h
    refine regS mixed hn hG h [0, 2, 501, 3, 4, 5, 500] (ob [1] (op_box q0 (cells_agg _)) .nil) fun b3 a w h => ?_
    refine wp_seq ?_
    refine regS mixed hn hG h [0, 1, 2, 500, 3, 4, 5, 6] (ov [0] (op_move q0) <| ov [500] (op_bin (bin_pnil Tryd.underlying42) (lp_ptr q0) (opc (ec _))) .nil) fun _ a w h => ?_
    refine cond_L h 3 rfl (fun hb4 => ?_) (fun hb4 => ?_)
    · cases hb4
    · skip
      replace h := h.sel [0, 1, 2, 4, 5, 6, 7]
      refine wp_skip ?_
      show Code.wp Tryd.prog _ _ a w
      refine wp_seq ?_
      refine regS mixed hn hG h [0, 1, 2, 502, 501, 500, 3, 4, 5, 6] (ov [0] (op_move q0) <| ov [500] (op_nilCheck q0 (ptr_lp _ _)) <| ov [500] (op_fieldAddr_lbm (p := p_0) (n := 1) 0 1 Tryd.underlying103 rfl Tryd.sizeOf100 (by decide) q0 rfl) <| ov [500, 3] (op_load_lb1 [one (eqVP h_0_0)] [] 1 Tryd.isAgg100 q0 rfl rfl) <| ov [2, 6] (op_load_w 1 Tryd.isAgg23 Tryd.sizeOf23 q0) <| ov [501, 500, 5] (op_lookup (slVP strC) [] 2 Tryd.underlying100 (keyArr Tryd.underlying23 Tryd.underlying5 Tryd.type5 Tryd.sizeOf5 Tryd.isAgg5) Tryd.zeroValue101 q0 q1 hk_arr rfl res_id (fun _ _ _ _ _ h => acc_sl h) (fun _ => ⟨by decide, .inl ⟨rfl, rfl⟩⟩)) <| ov [500] (op_len_sl Tryd.underlying101 q0) <| ov [] (op_move qi) .nil) fun _ a w h => ?_
      refine wp_block ?_
      obtain ⟨cr16, hl17, hF⟩ := bind_some hF
      refine wp_mono (wp_loopN (R := (Option O_RLog)) (S := Int) (fun s a w => SatL c [.slot 0 (lpVP p_0 0), .slot 2 (strVP a_2), .slot 4 (lpVP (b3 0) 0), .slot 15 (slVP strC ((lkp a_1 s_0.f_Digests).getD [])), .slot 16 (intVP .i64 (((lkp a_1 s_0.f_Digests).getD []).length : Int)), .slot 17 (intVP .i64 s), .res (lb p_0 103 [one (eqVP h_0_0), one (eqVP h_0_1)]), .res (acc h_0_0 9 1 strC s_0.f_Inputs), .res (mapR h_0_1 arrK (fun l => l.length = 32) (fun u y => acc u 9 1 strC y) s_0.f_Digests), .res (lb (b3 0) 23 [bytesCk 32 a_1])] a w) (fun res e a w => match res with | .next s => e = .exit 0 ∧ SatL c [.slot 0 (lpVP p_0 0), .slot 2 (strVP a_2), .slot 4 (lpVP (b3 0) 0), .res (lb p_0 103 [one (eqVP h_0_0), one (eqVP h_0_1)]), .res (acc h_0_0 9 1 strC s_0.f_Inputs), .res (mapR h_0_1 arrK (fun l => l.length = 32) (fun u y => acc u 9 1 strC y) s_0.f_Digests), .res (lb (b3 0) 23 [bytesCk 32 a_1])] a w | .ret r => e = .ret ∧ RetOk Tryd.prog Tryd.f79 c (tupVP []) (fun _ => [RLog_e p_0 r]) a w) ?_ _ 0 _ _ _ (h.sub [0, 1, 2, 3, 4, 5, 6, 7, 8, 9] (by rfl)) hl17) ?_
      · clear hl17 hF h
        intro x8 a w o h hF
        change ref04_Log_Note.b1 s_0 a_1 a_2 x8 = some o at hF
        unfold ref04_Log_Note.b1 at hF
        change SatL c [.slot 0 (lpVP p_0 0), .slot 2 (strVP a_2), .slot 4 (lpVP (b3 0) 0), .slot 15 (slVP strC ((lkp a_1 s_0.f_Digests).getD [])), .slot 16 (intVP .i64 (((lkp a_1 s_0.f_Digests).getD []).length : Int)), .slot 17 (intVP .i64 x8), .res (lb p_0 103 [one (eqVP h_0_0), one (eqVP h_0_1)]), .res (acc h_0_0 9 1 strC s_0.f_Inputs), .res (mapR h_0_1 arrK (fun l => l.length = 32) (fun u y => acc u 9 1 strC y) s_0.f_Digests), .res (lb (b3 0) 23 [bytesCk 32 a_1])] a w at h
        refine regS mixed hn hG h [0, 1, 2, 3, 4, 5, 500, 6, 7, 8, 9] (ov [5, 4] (op_bin bin_lss q0 q1) .nil) fun _ a w h => ?_
        refine wp_seq ?_
        refine cnd h hF 6 [0, 1, 2, 3, 4, 5, 7, 8, 9, 10] [0, 1, 2, 3, 4, 5, 7, 8, 9, 10] (fun hb13 hF h => ?_) (fun hb13 hF h => ?_)
        · refine wp_skip ?_
          show Code.wp Tryd.prog _ _ a w
          refine wp_seq ?_
          refine wp_block ?_
          obtain ⟨hv14, hF⟩ := ite_some hF
          refine regS mixed hn hG h [0, 1, 2, 500, 3, 4, 5, 6, 7, 8, 9] (ov [3, 5] (op_indexAddr_sl Tryd.underlying101 Tryd.sizeOf9 lens_strC q0 q1 hv14) <| ov [500] (op_load_pp1 [] Tryd.isAgg9 q0) <| ov [500] (op_assign q0) .nil) fun _ a w h => ?_
          refine regS mixed hn hG h [0, 1, 2, 4, 5, 6, 500, 7, 8, 9, 10] (ov [3] (op_move q0) <| ov [1] (op_move q0) <| ov [501, 500] (op_bin bin_seql q0 q1) .nil) fun _ a w h => ?_
          refine cnd h hF 6 [7, 8, 9] [0, 1, 2, 3, 4, 5, 7, 8, 9, 10] (fun hb15 hF h => ?_) (fun hb15 hF h => ?_)
          · refine wp_ret ?_
            replace h := h.unsep 1 2 rfl rfl (by decide)
            replace h := h.unsep 0 1 rfl rfl (by decide)
            replace h := h.conv 0 rfl (R' := RLog_e p_0 (some s_0)) (RLog_packo (v0 := h_0_0) (v1 := h_0_1) (o := (some s_0)))
            replace h := h.sub [0] (by rfl)
            change SatL c [.res (RLog_e p_0 (some s_0))] a w at h
            obtain rfl := Option.some.inj hF
            exact ⟨ret_ne, rfl, retn h (rs := []) (Vs := []) Tryd.results79 (by decide) trivial [0] [(RLog_e p_0 (some s_0))] rfl rfl rfl⟩
          · refine wp_skip ?_
            show Code.wp Tryd.prog _ _ a w
            refine reg mixed hn hG h [0, 1, 2, 3, 4, 500, 6, 7, 8, 9] (ov [5] (op_bin bin_add q0 qi) <| od [500] 5 (op_move q0) .nil) fun _ a w h => ?_
            obtain rfl := Option.some.inj hF
            exact ⟨rfl, h.sub [0, 1, 2, 3, 4, 5, 6, 7, 8, 9] (by rfl)⟩
        · refine wp_exit ?_
          obtain rfl := Option.some.inj hF
          exact ⟨exit_ne _, rfl, h.sub [0, 1, 2, 6, 7, 8, 9] (by rfl)⟩
      · clear hl17
        intro e a w hq
        cases cr16 with
        | ret r18 =>
          obtain ⟨rfl, hq⟩ := hq
          obtain rfl := Option.some.inj hF
          exact ⟨.inl rfl, hq⟩
        | next y20 =>
          obtain ⟨rfl, h⟩ := hq
          change SatL c [.slot 0 (lpVP p_0 0), .slot 2 (strVP a_2), .slot 4 (lpVP (b3 0) 0), .res (lb p_0 103 [one (eqVP h_0_0), one (eqVP h_0_1)]), .res (acc h_0_0 9 1 strC s_0.f_Inputs), .res (mapR h_0_1 arrK (fun l => l.length = 32) (fun u y => acc u 9 1 strC y) s_0.f_Digests), .res (lb (b3 0) 23 [bytesCk 32 a_1])] a w at h
          refine inBlock_at ?_
          show Code.wp Tryd.prog _ _ a w
          obtain ⟨hv21, hF⟩ := ite_some hF
          refine regS mixed hn hG h [0, 1, 3, 4, 500] (ov [0] (op_move q0) <| ov [500] (op_nilCheck q0 (ptr_lp _ _)) <| ov [500] (op_fieldAddr_lbm (p := p_0) (n := 1) 0 1 Tryd.underlying103 rfl Tryd.sizeOf100 (by decide) q0 rfl) <| ov [500, 3] (op_load_lb1 [one (eqVP h_0_0)] [] 1 Tryd.isAgg100 q0 rfl rfl) <| ov [2, 6] (op_load_w 1 Tryd.isAgg23 Tryd.sizeOf23 q0) <| ov [1] (op_move q0) <| ov [500] (op_lit (xs := [.tmp 31]) (ys := [a_2]) _ rfl Tryd.underlying101 Tryd.sizeOf9 Tryd.zeroValue9 rfl rfl (by decide) (by decide) ⟨⟨_, q0, (cells_one (one_str _))⟩, trivial⟩ lens_strC) <| og [503, 502] [5] [.slot 33 7 100000 (fun v1_ _ => (tupVP [(eqVP (tup0 v1_)), (eqVP (tup1 v1_))])), .res 7 100000 (fun v1_ _ => (acc (tup0 v1_) 9 1 strC ((lkp a_1 s_0.f_Digests).getD ([] : List (List UInt8))))), .res 7 100000 (fun v1_ _ => (mapH h_0_1 (tup1 v1_) arrK (fun l => l.length = 32) (fun u y => acc u 9 1 strC y) a_1 (ens a_1 ([] : List (List UInt8)) s_0.f_Digests)))] (GOk.plain (op_mapEntry ([] : List (List UInt8)) Tryd.underlying100 (keyArr Tryd.underlying23 Tryd.underlying5 Tryd.type5 Tryd.sizeOf5 Tryd.isAgg5) Tryd.zeroValue101 q0 q1 hk_arr (fun _ _ => ⟨by decide, .inl ⟨rfl, rfl, rfl⟩⟩)) rfl) <| og [502] [] [.slot 30 7 100000 (fun v1_ _ => (eqVP (tup0 v1_)))] (fun {β} => (GOk.plain (op_extract (V := (eqVP (tup0 (β 7)))) q0 rfl) rfl)) <| og [500, 504] [502] [.slot 34 9 100000 (fun v1_ _ => (eqVP v1_)), .res 9 100000 (fun v1_ _ => (acc (v1_) 9 1 strC (((lkp a_1 s_0.f_Digests).getD ([] : List (List UInt8))) ++ [a_2])))] (GOk.plain (op_append (i := Tryd.t9) Tryd.underlying101 Tryd.type9 rfl lens_strC (by decide) rfl q0 q1 hv21) rfl) <| og [505] [] [.slot 35 7 100000 (fun v1_ _ => (eqVP (tup1 v1_)))] (fun {β} => (GOk.plain (op_extract (V := (eqVP (tup1 (β 7)))) q0 rfl) rfl)) <| og [510, 500, 502] [501, 504] [.base (.res (mapR h_0_1 arrK (fun l => l.length = 32) (fun u y => acc u 9 1 strC y) (upd a_1 (((lkp a_1 s_0.f_Digests).getD ([] : List (List UInt8))) ++ [a_2]) (ens a_1 ([] : List (List UInt8)) s_0.f_Digests))))] (fun {β} => (GOk.plain (op_entryStore (eR := (fun u y => acc u 9 1 strC y)) (u := (β 9)) (n := (((lkp a_1 s_0.f_Digests).getD ([] : List (List UInt8))) ++ [a_2])) q0 q1 q2) rfl)) .nil) fun _ a w h => ?_
          obtain ⟨hv22, hF⟩ := ite_some hF
          refine reg mixed hn hG h [500, 4, 503] (ov [0] (op_move q0) <| ov [0] (op_move q0) <| ov [500] (op_nilCheck q0 (ptr_lp _ _)) <| ov [500] (op_fieldAddr_lbm (p := p_0) (n := 1) 0 0 Tryd.underlying103 rfl Tryd.sizeOf101 (by decide) q0 rfl) <| ov [500, 2] (op_load_lb1 [] [one (eqVP h_0_1)] 1 Tryd.isAgg101 q0 rfl rfl) <| ov [1] (op_move q0) <| ov [500] (op_lit (xs := [.tmp 41]) (ys := [a_2]) _ rfl Tryd.underlying101 Tryd.sizeOf9 Tryd.zeroValue9 rfl rfl (by decide) (by decide) ⟨⟨_, q0, (cells_one (one_str _))⟩, trivial⟩ lens_strC) <| og [502, 500] [3] [.slot 43 7 100000 (fun v1_ _ => (eqVP v1_)), .res 7 100000 (fun v1_ _ => (acc (v1_) 9 1 strC (s_0.f_Inputs ++ [a_2])))] (GOk.plain (op_append (i := Tryd.t9) Tryd.underlying101 Tryd.type9 rfl lens_strC (by decide) rfl q0 q1 hv22) rfl) <| ov [508] (op_nilCheck q0 (ptr_lp _ _)) <| ov [500] (op_fieldAddr_lbm (p := p_0) (n := 1) 0 0 Tryd.underlying103 rfl Tryd.sizeOf101 (by decide) q0 rfl) <| og [500, 503, 502] [2] [.res 7 100000 (fun v1_ _ => (lb p_0 103 [one (eqVP (v1_)), one (eqVP h_0_1)]))] (fun {β} => (GOk.plain (op_store_lb [] [one (eqVP h_0_0)] [one (eqVP h_0_1)] [one (eqVP ((β 7)))] Tryd.sizeOf101 q0 (opone 1 2 rfl rfl acc_one) (cells_h _) rfl rfl rfl) rfl)) .nil) fun b23 a w h => ?_
          replace h := h.unsep 2 1 rfl rfl (by decide)
          replace h := h.unsep 0 2 rfl rfl (by decide)
          replace h := h.conv 0 rfl (R' := RLog_e p_0 (some ⟨s_0.f_Inputs ++ [a_2], upd a_1 (((lkp a_1 s_0.f_Digests).getD ([] : List (List UInt8))) ++ [a_2]) (ens a_1 ([] : List (List UInt8)) s_0.f_Digests)⟩)) (RLog_packo (v0 := (b23 7)) (v1 := h_0_1) (o := (some ⟨s_0.f_Inputs ++ [a_2], upd a_1 (((lkp a_1 s_0.f_Digests).getD ([] : List (List UInt8))) ++ [a_2]) (ens a_1 ([] : List (List UInt8)) s_0.f_Digests)⟩)))
          replace h := h.sub [0] (by rfl)
          change SatL c [.res (RLog_e p_0 (some ⟨s_0.f_Inputs ++ [a_2], upd a_1 (((lkp a_1 s_0.f_Digests).getD ([] : List (List UInt8))) ++ [a_2]) (ens a_1 ([] : List (List UInt8)) s_0.f_Digests)⟩))] a w at h
          obtain rfl := Option.some.inj hF
          exact ⟨.inr rfl, retn h (rs := []) (Vs := []) Tryd.results79 (by decide) trivial [0] [(RLog_e p_0 (some ⟨s_0.f_Inputs ++ [a_2], upd a_1 (((lkp a_1 s_0.f_Digests).getD ([] : List (List UInt8))) ++ [a_2]) (ens a_1 ([] : List (List UInt8)) s_0.f_Digests)⟩))] rfl rfl rfl⟩

def ref04_Log_Of (L_0 : Option O_RLog) (a_1 : Int) (a_2 : List (List UInt8)) : Option ((List UInt8) × (Option O_RLog)) := ((ref04_Input a_1 a_2).bind fun r2 => ((ref01_Sum r2).bind fun r3 => ((ref04_Log_Note L_0 r3 r2).bind fun r5 => some (r3, r5))))
theorem ref04_Log_Of_ok {p_0 : Value} {L_0 : Option O_RLog} {a_1 : Int} {a_2 : List (List UInt8)} {r : (List UInt8) × (Option O_RLog)} (hF : ref04_Log_Of L_0 a_1 a_2 = some r) : CallOk Tryd.prog KG 59 [(eqVP p_0), (intVP .u8 a_1), (slVP strC a_2)] [(RLog_e p_0 L_0)] (fun _ => [RLog_e p_0 r.2]) (aggVP [bytesCk 32 r.1]) := by
  refine CallOk.intro 19 Tryd.func59 rfl Tryd.ntmps59 (Nat.le_of_ble_eq_true rfl) ?_
  intro c a w hG hn h
  unfold ref04_Log_Of at hF
  change SatL c [.slot 0 (eqVP p_0), .slot 1 (intVP .u8 a_1), .slot 2 (slVP strC a_2), .res (RLog_e p_0 L_0)] a w at h
  refine regS mixed hn hG h [0, 1, 2, 501, 3, 500] (ob [] (op_alloc Tryd.zeroValue23 z23) .nil) fun b1 a w h => ?_
  obtain ⟨r2, hr2, hF⟩ := bind_some hF
  refine regS mixed hn hG h [0, 3, 500, 4, 5] (ov [1] (op_move q0) <| ov [2] (op_move q0) <| oc [501, 500] [] Tryd.call77 (ref04_Input_ok hr2) ⟨q0, q1, trivial⟩ <| ov [500] (op_assign q0) .nil) fun _ a w h => ?_
  obtain ⟨r3, hr3, hF⟩ := bind_some hF
  refine regS mixed hn hG h [0, 1, 2, 502, 3, 4, 500] (ov [2] (op_move q0) <| oc [500] [] Tryd.call78 (ref01_Sum_ok hr3) ⟨q0, trivial⟩ <| ob [] (op_alloc Tryd.zeroValue23 z23) <| og [501, 502] [500] [.res 2 100000 (fun v1_ _ => (lb (v1_) 23 [bytesCk 32 r3]))] (GOk.plain (op_store_w Tryd.sizeOf23 q0 q1 (cells_agg _)) rfl) .nil) fun b4 a w h => ?_
  obtain ⟨r5, hr5, hF⟩ := bind_some hF
  refine regS mixed hn hG h [1, 3, 5, 6, 500] (ov [0] (op_move q0) <| ov [3, 6] (op_load_w 1 Tryd.isAgg23 Tryd.sizeOf23 q0) <| ov [2] (op_move q0) <| oc [502, 501, 500] [4] Tryd.call79 (ref04_Log_Note_ok hr5) ⟨q0, q1, q2, trivial⟩ .nil) fun _ a w h => ?_
  refine regS mixed hn hG h [0, 500, 4] (ov [1, 3] (op_load_w 1 Tryd.isAgg23 Tryd.sizeOf23 q0) <| ou [0, 500] 2 (op_store_w Tryd.sizeOf23 q0 q1 (cells_agg _)) .nil) fun _ a w h => ?_
  refine wp_ret ?_
  obtain rfl := Option.some.inj hF
  exact ⟨.inl rfl, ret1 h Tryd.results59 (r_cell 0 1 rfl rfl Tryd.isAgg23 Tryd.sizeOf23 rfl) [2] [(RLog_e p_0 r5)] rfl rfl rfl⟩

def ref03_Bytes (a_0 : List UInt8) : Option (List UInt8) := some (a_0.take ((32 : Int).toNat - (0 : Int).toNat))
theorem ref03_Bytes_ok {a_0 : List UInt8} {r : (List UInt8)} (hF : ref03_Bytes a_0 = some r) : CallOk Tryd.prog KG 61 [(aggVP [bytesCk 32 a_0])] [] (fun _ => []) (strVP r) := by
  refine CallOk.intro 5 Tryd.func61 rfl Tryd.ntmps61 (Nat.le_of_ble_eq_true rfl) ?_
  intro c a w hG hn h
  unfold ref03_Bytes at hF
  change SatL c [.slot 0 (aggVP [bytesCk 32 a_0])] a w at h
  refine regS mixed hn hG h [502, 501] (ob [0] (op_box q0 (cells_agg _)) <| ov [] (op_assign (opc (sc _ (by decide)))) .nil) fun b1 a w h => ?_
  refine regS mixed hn hG h [500] (ov [0] (op_slice_lb (a := 0) (b := 32) Tryd.underlying23 Tryd.sizeOf5 q0 rfl rfl (by decide)) <| ov [500, 1] (op_str_lsl [] [] 1 Tryd.underlying129 Tryd.underlying5 Tryd.underlying9 q0 rfl rfl (by decide) (by decide)) <| ov [500] (op_assign q0) .nil) fun _ a w h => ?_
  refine wp_ret ?_
  obtain rfl := Option.some.inj hF
  exact ⟨.inl rfl, ret1 h Tryd.results61 (r_tmp 0 rfl) [] [] rfl rfl rfl⟩

def ref10_Claim (L_0 : Option O_RLog) (a_1 : Int) (a_2 : List UInt8) (a_3 : List UInt8) : Option ((List UInt8) × (Option O_RLog)) := ((ref03_Big (IntKind.wrap .u64 a_1) 4).bind fun r4 => ((ref03_Bytes a_2).bind fun r5 => ((ref03_Bytes a_3).bind fun r6 => ((ref04_Log_Of L_0 7 [r4, r5, r6]).bind fun r7 => some (r7.1, r7.2)))))
theorem ref10_Claim_ok {p_0 : Value} {L_0 : Option O_RLog} {a_1 : Int} {a_2 : List UInt8} {a_3 : List UInt8} {r : (List UInt8) × (Option O_RLog)} (hF : ref10_Claim L_0 a_1 a_2 a_3 = some r) : CallOk Tryd.prog KG 28 [(eqVP p_0), (intVP .u32 a_1), (aggVP [bytesCk 32 a_2]), (aggVP [bytesCk 32 a_3])] [(RLog_e p_0 L_0)] (fun _ => [RLog_e p_0 r.2]) (aggVP [bytesCk 32 r.1]) := by
  refine CallOk.intro 19 Tryd.func28 rfl Tryd.ntmps28 (Nat.le_of_ble_eq_true rfl) ?_
  intro c a w hG hn h
  unfold ref10_Claim at hF
  change SatL c [.slot 0 (eqVP p_0), .slot 1 (intVP .u32 a_1), .slot 2 (aggVP [bytesCk 32 a_2]), .slot 3 (aggVP [bytesCk 32 a_3]), .res (RLog_e p_0 L_0)] a w at h
  refine regS mixed hn hG h [0, 1, 505, 503, 501, 4, 504, 502, 500] (ob [2] (op_box q0 (cells_agg _)) <| ob [3] (op_box q0 (cells_agg _)) <| ob [] (op_alloc Tryd.zeroValue23 z23) .nil) fun b1 a w h => ?_
  obtain ⟨r4, hr4, hF⟩ := bind_some hF
  obtain ⟨r5, hr5, hF⟩ := bind_some hF
  obtain ⟨r6, hr6, hF⟩ := bind_some hF
  obtain ⟨r7, hr7, hF⟩ := bind_some hF
  refine regS mixed hn hG h [4, 500, 501] (ov [0] (op_move q0) <| ov [1] (op_move q0) <| ov [500] (op_convert_int Tryd.underlying51 Tryd.underlying114 q0) <| oc [500] [] Tryd.call60 (ref03_Big_ok hr4) ⟨q0, qi, trivial⟩ <| ov [2, 6] (op_load_w 1 Tryd.isAgg23 Tryd.sizeOf23 q0) <| oc [500] [] Tryd.call61 (ref03_Bytes_ok hr5) ⟨q0, trivial⟩ <| ov [3, 7] (op_load_w 1 Tryd.isAgg23 Tryd.sizeOf23 q0) <| oc [500] [] Tryd.call61 (ref03_Bytes_ok hr6) ⟨q0, trivial⟩ <| ov [504, 502, 500] (op_lit (xs := [.tmp 12, .tmp 14, .tmp 16]) (ys := [r4, r5, r6]) _ rfl Tryd.underlying101 Tryd.sizeOf9 Tryd.zeroValue9 rfl rfl (by decide) (by decide) ⟨⟨_, q0, (cells_one (one_str _))⟩, ⟨_, q1, (cells_one (one_str _))⟩, ⟨_, q2, (cells_one (one_str _))⟩, trivial⟩ lens_strC) <| oc [508, 500] [5] Tryd.call59 (ref04_Log_Of_ok hr7) ⟨q0, qi, q1, trivial⟩ <| ou [4, 501] 8 (op_store_w Tryd.sizeOf23 q0 q1 (cells_agg _)) .nil) fun _ a w h => ?_
  refine wp_ret ?_
  obtain rfl := Option.some.inj hF
  exact ⟨.inl rfl, ret1 h Tryd.results28 (r_cell 0 1 rfl rfl Tryd.isAgg23 Tryd.sizeOf23 rfl) [2] [(RLog_e p_0 r7.2)] rfl rfl rfl⟩

def ref04_Log_Two (L_0 : Option O_RLog) (a_1 : Int) (a_2 : List UInt8) (a_3 : List UInt8) : Option ((List UInt8) × (Option O_RLog)) := ((ref03_Bytes a_2).bind fun r4 => ((ref03_Bytes a_3).bind fun r5 => ((ref04_Log_Of L_0 a_1 [r4, r5]).bind fun r6 => some (r6.1, r6.2))))
theorem ref04_Log_Two_ok {p_0 : Value} {L_0 : Option O_RLog} {a_1 : Int} {a_2 : List UInt8} {a_3 : List UInt8} {r : (List UInt8) × (Option O_RLog)} (hF : ref04_Log_Two L_0 a_1 a_2 a_3 = some r) : CallOk Tryd.prog KG 75 [(eqVP p_0), (intVP .u8 a_1), (aggVP [bytesCk 32 a_2]), (aggVP [bytesCk 32 a_3])] [(RLog_e p_0 L_0)] (fun _ => [RLog_e p_0 r.2]) (aggVP [bytesCk 32 r.1]) := by
  refine CallOk.intro 17 Tryd.func75 rfl Tryd.ntmps75 (Nat.le_of_ble_eq_true rfl) ?_
  intro c a w hG hn h
  unfold ref04_Log_Two at hF
  change SatL c [.slot 0 (eqVP p_0), .slot 1 (intVP .u8 a_1), .slot 2 (aggVP [bytesCk 32 a_2]), .slot 3 (aggVP [bytesCk 32 a_3]), .res (RLog_e p_0 L_0)] a w at h
  refine regS mixed hn hG h [0, 1, 505, 503, 501, 4, 504, 502, 500] (ob [2] (op_box q0 (cells_agg _)) <| ob [3] (op_box q0 (cells_agg _)) <| ob [] (op_alloc Tryd.zeroValue23 z23) .nil) fun b1 a w h => ?_
  obtain ⟨r4, hr4, hF⟩ := bind_some hF
  obtain ⟨r5, hr5, hF⟩ := bind_some hF
  obtain ⟨r6, hr6, hF⟩ := bind_some hF
  refine regS mixed hn hG h [4, 500, 501] (ov [0] (op_move q0) <| ov [1] (op_move q0) <| ov [2, 6] (op_load_w 1 Tryd.isAgg23 Tryd.sizeOf23 q0) <| oc [500] [] Tryd.call61 (ref03_Bytes_ok hr4) ⟨q0, trivial⟩ <| ov [3, 7] (op_load_w 1 Tryd.isAgg23 Tryd.sizeOf23 q0) <| oc [500] [] Tryd.call61 (ref03_Bytes_ok hr5) ⟨q0, trivial⟩ <| ov [502, 500] (op_lit (xs := [.tmp 12, .tmp 14]) (ys := [r4, r5]) _ rfl Tryd.underlying101 Tryd.sizeOf9 Tryd.zeroValue9 rfl rfl (by decide) (by decide) ⟨⟨_, q0, (cells_one (one_str _))⟩, ⟨_, q1, (cells_one (one_str _))⟩, trivial⟩ lens_strC) <| oc [506, 505, 500] [5] Tryd.call59 (ref04_Log_Of_ok hr6) ⟨q0, q1, q2, trivial⟩ <| ou [4, 501] 8 (op_store_w Tryd.sizeOf23 q0 q1 (cells_agg _)) .nil) fun _ a w h => ?_
  refine wp_ret ?_
  obtain rfl := Option.some.inj hF
  exact ⟨.inl rfl, ret1 h Tryd.results75 (r_cell 0 1 rfl rfl Tryd.isAgg23 Tryd.sizeOf23 rfl) [2] [(RLog_e p_0 r6.2)] rfl rfl rfl⟩

def ref06_node_s (slf : (Option O_RLog) → (List (List UInt8)) → Int → Int → Option ((List UInt8) × (Option O_RLog))) (L_0 : Option O_RLog) (a_1 : List (List UInt8)) (a_2 : Int) (a_3 : Int) : Option ((List UInt8) × (Option O_RLog)) := (if (decide (a_2 = (0 : Int))) = true then (if (0 : Int) ≤ a_3 ∧ a_3 < a_1.length then some (a_1.getD a_3.toNat default, L_0) else none) else ((slf L_0 a_1 (IntKind.wrap .i64 (a_2 - 1)) (IntKind.wrap .i64 (2 * a_3))).bind fun r4 => ((slf r4.2 a_1 (IntKind.wrap .i64 (a_2 - 1)) (IntKind.wrap .i64 ((IntKind.wrap .i64 (2 * a_3)) + 1))).bind fun r6 => ((ref04_Log_Two r6.2 4 r4.1 r6.1).bind fun r8 => some (r8.1, r8.2)))))
def ref06_node_f : Nat → (Option O_RLog) → (List (List UInt8)) → Int → Int → Option ((List UInt8) × (Option O_RLog))
  | 0, _, _, _, _ => none
  | k + 1, L_0, a_1, a_2, a_3 => ref06_node_s (ref06_node_f k) L_0 a_1 a_2 a_3
def ref06_node (L_0 : Option O_RLog) (a_1 : List (List UInt8)) (a_2 : Int) (a_3 : Int) : Option ((List UInt8) × (Option O_RLog)) := ref06_node_f 100000 L_0 a_1 a_2 a_3
theorem ref06_node_s_ok {slf : (Option O_RLog) → (List (List UInt8)) → Int → Int → Option ((List UInt8) × (Option O_RLog))} (slf_ok : ∀ {p_0 : Value} {L_0 : Option O_RLog} {a_1 : List (List UInt8)} {a_2 : Int} {a_3 : Int} {r : (List UInt8) × (Option O_RLog)}, slf L_0 a_1 a_2 a_3 = some r → CallOk Tryd.prog KG 56 [(eqVP p_0), (slVP (dC 32) a_1), (intVP .i64 a_2), (intVP .i64 a_3)] [(RLog_e p_0 L_0)] (fun _ => [RLog_e p_0 r.2]) (aggVP [bytesCk 32 r.1])) {p_0 : Value} {L_0 : Option O_RLog} {a_1 : List (List UInt8)} {a_2 : Int} {a_3 : Int} {r : (List UInt8) × (Option O_RLog)} (hF : ref06_node_s slf L_0 a_1 a_2 a_3 = some r) : CallOk Tryd.prog KG 56 [(eqVP p_0), (slVP (dC 32) a_1), (intVP .i64 a_2), (intVP .i64 a_3)] [(RLog_e p_0 L_0)] (fun _ => [RLog_e p_0 r.2]) (aggVP [bytesCk 32 r.1]) := by
  refine CallOk.intro 36 Tryd.func56 rfl Tryd.ntmps56 (Nat.le_of_ble_eq_true rfl) ?_
  intro c a w hG hn h
  unfold ref06_node_s at hF
  change SatL c [.slot 0 (eqVP p_0), .slot 1 (slVP (dC 32) a_1), .slot 2 (intVP .i64 a_2), .slot 3 (intVP .i64 a_3), .res (RLog_e p_0 L_0)] a w at h
  refine regS mixed hn hG h [0, 1, 2, 3, 501, 4, 500] (ob [] (op_alloc Tryd.zeroValue23 z23) .nil) fun b1 a w h => ?_
  refine wp_seq ?_
  refine regS mixed hn hG h [0, 1, 2, 3, 4, 500, 5, 6] (ov [2] (op_move q0) <| ov [500] (op_bin bin_eql q0 qi) .nil) fun _ a w h => ?_
  refine cnd h hF 5 [1, 3, 4, 6, 7] [0, 1, 2, 3, 4, 6, 7] (fun hb2 hF h => ?_) (fun hb2 hF h => ?_)
  · obtain ⟨hv3, hF⟩ := ite_some hF
    refine regS mixed hn hG h [2, 3, 500] (ov [0] (op_move q0) <| ov [1] (op_move q0) <| ov [501, 500] (op_indexAddr_sl Tryd.underlying24 Tryd.sizeOf23 (lens_dC 32) q0 q1 hv3) <| ov [500] (op_load_pp [bytesCk 32 (a_1.getD a_3.toNat default)] [] Tryd.isAgg23 Tryd.sizeOf23 q0 rfl) <| ou [2, 500] 4 (op_store_w Tryd.sizeOf23 q0 q1 (cells_agg _)) .nil) fun _ a w h => ?_
    refine wp_ret ?_
    obtain rfl := Option.some.inj hF
    exact ⟨.inl rfl, ret1 h Tryd.results56 (r_cell 0 2 rfl rfl Tryd.isAgg23 Tryd.sizeOf23 rfl) [1] [(RLog_e p_0 L_0)] rfl rfl rfl⟩
  · refine wp_skip ?_
    show Code.wp Tryd.prog _ _ a w
    obtain ⟨r4, hr4, hF⟩ := bind_some hF
    refine regS mixed hn hG h [0, 1, 2, 3, 4, 502, 6, 503, 500] (ov [0] (op_move q0) <| ov [1] (op_move q0) <| ov [2] (op_move q0) <| ov [500] (op_bin bin_sub q0 qi) <| ov [3] (op_move q0) <| ov [500] (op_bin bin_mul qi q0) <| oc [505, 504, 502, 500] [5] Tryd.call56 (slf_ok hr4) ⟨q0, q1, q2, q3, trivial⟩ <| ob [] (op_alloc Tryd.zeroValue23 z23) <| og [501, 503] [500] [.res 7 100000 (fun v1_ _ => (lb (v1_) 23 [bytesCk 32 r4.1]))] (GOk.plain (op_store_w Tryd.sizeOf23 q0 q1 (cells_agg _)) rfl) .nil) fun b5 a w h => ?_
    obtain ⟨r6, hr6, hF⟩ := bind_some hF
    refine regS mixed hn hG h [0, 4, 5, 502, 6, 8, 503, 500] (ov [0] (op_move q0) <| ov [1] (op_move q0) <| ov [2] (op_move q0) <| ov [500] (op_bin bin_sub q0 qi) <| ov [3] (op_move q0) <| ov [500] (op_bin bin_mul qi q0) <| ov [500] (op_bin bin_add q0 qi) <| oc [506, 505, 503, 500] [7] Tryd.call56 (slf_ok hr6) ⟨q0, q1, q2, q3, trivial⟩ <| ob [] (op_alloc Tryd.zeroValue23 z23) <| og [501, 503] [500] [.res 8 100000 (fun v1_ _ => (lb (v1_) 23 [bytesCk 32 r6.1]))] (GOk.plain (op_store_w Tryd.sizeOf23 q0 q1 (cells_agg _)) rfl) .nil) fun b7 a w h => ?_
    obtain ⟨r8, hr8, hF⟩ := bind_some hF
    refine regS mixed hn hG h [1, 500, 501] (ov [0] (op_move q0) <| ov [2, 5] (op_load_w 1 Tryd.isAgg23 Tryd.sizeOf23 q0) <| ov [3, 7] (op_load_w 1 Tryd.isAgg23 Tryd.sizeOf23 q0) <| oc [502, 501, 500] [6] Tryd.call75 (ref04_Log_Two_ok hr8) ⟨q0, qi, q1, q2, trivial⟩ <| ou [1, 501] 4 (op_store_w Tryd.sizeOf23 q0 q1 (cells_agg _)) .nil) fun _ a w h => ?_
    refine wp_ret ?_
    obtain rfl := Option.some.inj hF
    exact ⟨.inl rfl, ret1 h Tryd.results56 (r_cell 0 1 rfl rfl Tryd.isAgg23 Tryd.sizeOf23 rfl) [2] [(RLog_e p_0 r8.2)] rfl rfl rfl⟩
theorem ref06_node_f_ok : ∀ (k : Nat) {p_0 : Value} {L_0 : Option O_RLog} {a_1 : List (List UInt8)} {a_2 : Int} {a_3 : Int} {r : (List UInt8) × (Option O_RLog)}, ref06_node_f k L_0 a_1 a_2 a_3 = some r → CallOk Tryd.prog KG 56 [(eqVP p_0), (slVP (dC 32) a_1), (intVP .i64 a_2), (intVP .i64 a_3)] [(RLog_e p_0 L_0)] (fun _ => [RLog_e p_0 r.2]) (aggVP [bytesCk 32 r.1])
  | 0, _, _, _, _, _, _ => fun hF => by cases hF
  | k + 1, _, _, _, _, _, _ => fun hF => ref06_node_s_ok (fun h => ref06_node_f_ok k h) hF
theorem ref06_node_ok {p_0 : Value} {L_0 : Option O_RLog} {a_1 : List (List UInt8)} {a_2 : Int} {a_3 : Int} {r : (List UInt8) × (Option O_RLog)} (hF : ref06_node L_0 a_1 a_2 a_3 = some r) : CallOk Tryd.prog KG 56 [(eqVP p_0), (slVP (dC 32) a_1), (intVP .i64 a_2), (intVP .i64 a_3)] [(RLog_e p_0 L_0)] (fun _ => [RLog_e p_0 r.2]) (aggVP [bytesCk 32 r.1]) := ref06_node_f_ok 100000 hF

def ref05_Public (L_0 : Option O_RLog) (a_1 : List UInt8) : Option ((List UInt8) × (Option O_RLog)) := ((ref03_Bytes a_1).bind fun r3 => ((ref04_Log_Of L_0 2 [r3]).bind fun r4 => some (r4.1, r4.2)))
theorem ref05_Public_ok {p_0 : Value} {L_0 : Option O_RLog} {a_1 : List UInt8} {r : (List UInt8) × (Option O_RLog)} (hF : ref05_Public L_0 a_1 = some r) : CallOk Tryd.prog KG 73 [(eqVP p_0), (aggVP [bytesCk 32 a_1])] [(RLog_e p_0 L_0)] (fun _ => [RLog_e p_0 r.2]) (aggVP [bytesCk 32 r.1]) := by
  refine CallOk.intro 10 Tryd.func73 rfl Tryd.ntmps73 (Nat.le_of_ble_eq_true rfl) ?_
  intro c a w hG hn h
  unfold ref05_Public at hF
  change SatL c [.slot 0 (eqVP p_0), .slot 1 (aggVP [bytesCk 32 a_1]), .res (RLog_e p_0 L_0)] a w at h
  refine regS mixed hn hG h [0, 503, 501, 2, 502, 500] (ob [1] (op_box q0 (cells_agg _)) <| ob [] (op_alloc Tryd.zeroValue23 z23) .nil) fun b1 a w h => ?_
  obtain ⟨r3, hr3, hF⟩ := bind_some hF
  obtain ⟨r4, hr4, hF⟩ := bind_some hF
  refine regS mixed hn hG h [2, 500, 501] (ov [0] (op_move q0) <| ov [1, 4] (op_load_w 1 Tryd.isAgg23 Tryd.sizeOf23 q0) <| oc [500] [] Tryd.call61 (ref03_Bytes_ok hr3) ⟨q0, trivial⟩ <| ov [500] (op_lit (xs := [.tmp 7]) (ys := [r3]) _ rfl Tryd.underlying101 Tryd.sizeOf9 Tryd.zeroValue9 rfl rfl (by decide) (by decide) ⟨⟨_, q0, (cells_one (one_str _))⟩, trivial⟩ lens_strC) <| oc [503, 500] [3] Tryd.call59 (ref04_Log_Of_ok hr4) ⟨q0, qi, q1, trivial⟩ <| ou [2, 501] 5 (op_store_w Tryd.sizeOf23 q0 q1 (cells_agg _)) .nil) fun _ a w h => ?_
  refine wp_ret ?_
  obtain rfl := Option.some.inj hF
  exact ⟨.inl rfl, ret1 h Tryd.results73 (r_cell 0 1 rfl rfl Tryd.isAgg23 Tryd.sizeOf23 rfl) [2] [(RLog_e p_0 r4.2)] rfl rfl rfl⟩

def ref05_Secret (L_0 : Option O_RLog) (a_1 : List UInt8) (a_2 : Int) (a_3 : Int) (a_4 : Int) : Option ((List UInt8) × (Option O_RLog)) := ((ref03_Bytes a_1).bind fun r3 => ((ref03_Big (IntKind.wrap .u64 a_2) 4).bind fun r4 => ((ref03_Big (IntKind.wrap .u64 a_3) 1).bind fun r5 => ((ref03_Big (IntKind.wrap .u64 a_4) 1).bind fun r6 => ((ref04_Log_Of L_0 1 [r3, r4, r5, r6]).bind fun r7 => some (r7.1, r7.2))))))
theorem ref05_Secret_ok {p_0 : Value} {L_0 : Option O_RLog} {a_1 : List UInt8} {a_2 : Int} {a_3 : Int} {a_4 : Int} {r : (List UInt8) × (Option O_RLog)} (hF : ref05_Secret L_0 a_1 a_2 a_3 a_4 = some r) : CallOk Tryd.prog KG 74 [(eqVP p_0), (aggVP [bytesCk 32 a_1]), (intVP .i64 a_2), (intVP .i64 a_3), (intVP .i64 a_4)] [(RLog_e p_0 L_0)] (fun _ => [RLog_e p_0 r.2]) (aggVP [bytesCk 32 r.1]) := by
  refine CallOk.intro 25 Tryd.func74 rfl Tryd.ntmps74 (Nat.le_of_ble_eq_true rfl) ?_
  intro c a w hG hn h
  unfold ref05_Secret at hF
  change SatL c [.slot 0 (eqVP p_0), .slot 1 (aggVP [bytesCk 32 a_1]), .slot 2 (intVP .i64 a_2), .slot 3 (intVP .i64 a_3), .slot 4 (intVP .i64 a_4), .res (RLog_e p_0 L_0)] a w at h
  refine regS mixed hn hG h [0, 2, 3, 4, 503, 501, 5, 502, 500] (ob [1] (op_box q0 (cells_agg _)) <| ob [] (op_alloc Tryd.zeroValue23 z23) .nil) fun b1 a w h => ?_
  obtain ⟨r3, hr3, hF⟩ := bind_some hF
  obtain ⟨r4, hr4, hF⟩ := bind_some hF
  obtain ⟨r5, hr5, hF⟩ := bind_some hF
  obtain ⟨r6, hr6, hF⟩ := bind_some hF
  obtain ⟨r7, hr7, hF⟩ := bind_some hF
  refine regS mixed hn hG h [5, 500, 501] (ov [0] (op_move q0) <| ov [4, 7] (op_load_w 1 Tryd.isAgg23 Tryd.sizeOf23 q0) <| oc [500] [] Tryd.call61 (ref03_Bytes_ok hr3) ⟨q0, trivial⟩ <| ov [1] (op_move q0) <| ov [500] (op_convert_int Tryd.underlying3 Tryd.underlying114 q0) <| oc [500] [] Tryd.call60 (ref03_Big_ok hr4) ⟨q0, qi, trivial⟩ <| ov [2] (op_move q0) <| ov [500] (op_convert_int Tryd.underlying3 Tryd.underlying114 q0) <| oc [500] [] Tryd.call60 (ref03_Big_ok hr5) ⟨q0, qi, trivial⟩ <| ov [3] (op_move q0) <| ov [500] (op_convert_int Tryd.underlying3 Tryd.underlying114 q0) <| oc [500] [] Tryd.call60 (ref03_Big_ok hr6) ⟨q0, qi, trivial⟩ <| ov [509, 506, 503, 500] (op_lit (xs := [.tmp 13, .tmp 16, .tmp 19, .tmp 22]) (ys := [r3, r4, r5, r6]) _ rfl Tryd.underlying101 Tryd.sizeOf9 Tryd.zeroValue9 rfl rfl (by decide) (by decide) ⟨⟨_, q0, (cells_one (one_str _))⟩, ⟨_, q1, (cells_one (one_str _))⟩, ⟨_, q2, (cells_one (one_str _))⟩, ⟨_, q3, (cells_one (one_str _))⟩, trivial⟩ lens_strC) <| oc [512, 500] [6] Tryd.call59 (ref04_Log_Of_ok hr7) ⟨q0, qi, q1, trivial⟩ <| ou [5, 501] 8 (op_store_w Tryd.sizeOf23 q0 q1 (cells_agg _)) .nil) fun _ a w h => ?_
  refine wp_ret ?_
  obtain rfl := Option.some.inj hF
  exact ⟨.inl rfl, ret1 h Tryd.results74 (r_cell 0 1 rfl rfl Tryd.isAgg23 Tryd.sizeOf23 rfl) [2] [(RLog_e p_0 r7.2)] rfl rfl rfl⟩

def ref05_Bit.b1 (a_1 : Int) (x6 : Int) (x7 : Int) : Option (Flow Int (Int × Int)) := (if (decide (x7 < (IntKind.wrap .i64 (7 - (a_1.tmod 8))))) = true then some (.cont (IntKind.wrap .i64 (x6.tdiv 2), IntKind.wrap .i64 (x7 + 1))) else some (.brk (x6, x7)))
def ref05_Bit.j1 (a_0 : List UInt8) (a_1 : Int) (x2 : Bool) : Option Int := (if x2 = true then some 0 else (if (0 : Int) ≤ IntKind.wrap .i64 (a_1.tdiv 8) ∧ IntKind.wrap .i64 (a_1.tdiv 8) < 32 then ((loopN (fun s : Int × Int => ref05_Bit.b1 a_1 s.1 s.2) 100000 (IntKind.wrap .i64 ((a_0.getD (IntKind.wrap .i64 (a_1.tdiv 8)).toNat 0).toNat), 0)).bind fun cr => match cr with | .ret r => some r | .next (y16, y17) => some (y16.tmod 2)) else none))
def ref05_Bit (a_0 : List UInt8) (a_1 : Int) : Option Int := (if (decide (a_1 < (0 : Int))) = true then ref05_Bit.j1 a_0 a_1 true else ref05_Bit.j1 a_0 a_1 (decide ((255 : Int) < a_1)))
theorem ref05_Bit_ok {a_0 : List UInt8} {a_1 : Int} {r : Int} (hF : ref05_Bit a_0 a_1 = some r) : CallOk Tryd.prog KG 76 [(aggVP [bytesCk 32 a_0]), (intVP .i64 a_1)] [] (fun _ => []) (intVP .i64 r) := by
  refine CallOk.intro 29 Tryd.func76 rfl Tryd.ntmps76 (Nat.le_of_ble_eq_true rfl) ?_
  intro c a w hG hn h
  unfold ref05_Bit at hF
  change SatL c [.slot 0 (aggVP [bytesCk 32 a_0]), .slot 1 (intVP .i64 a_1)] a w at h
  refine regS mixed hn hG h [1, 502, 501] (ob [0] (op_box q0 (cells_agg _)) <| ov [] (op_assign qi) .nil) fun b1 a w h => ?_
  refine wp_seq ?_
  refine wp_seq ?_
  refine wp_cut (fun a w => ∃ (x2 : Bool), ref05_Bit.j1 a_0 a_1 x2 = some r ∧ SatL c [.slot 1 (intVP .i64 a_1), .slot 2 (lpVP (b1 0) 0), .slot 12 (boolVP x2), .res (lb (b1 0) 23 [bytesCk 32 a_0])] a w) ?_ ?_
  · rcases Bool.eq_false_or_eq_true (decide (a_1 < (0 : Int))) with hb18 | hb18
    · replace hF := tt_of hb18 hF
      refine reg mixed hn hG h [0, 1, 500, 2] (ov [0] (op_move q0) <| ov [500] (op_bin bin_lss q0 qi) <| ov [500] (op_move q0) <| oe [500] [] (GOk.off_v (want := false) hb18 rfl rfl rfl rfl) <| oe [501] [] (GOk.off_v (want := false) hb18 rfl rfl rfl rfl) <| ov [502] (op_pick_t hb18 q0 qb) .nil) fun _ a w h => ?_
      exact ⟨true, hF, h.sub [0, 1, 2, 3] (by rfl)⟩
    · replace hF := ff_of hb18 hF
      refine reg mixed hn hG h [0, 1, 500, 2] (ov [0] (op_move q0) <| ov [500] (op_bin bin_lss q0 qi) <| ov [500] (op_move q0) <| oe [500, 0] [] (GOk.on_eq hb18 rfl rfl rfl (op_move q0)) <| oe [501, 500] [] (GOk.on_eq hb18 rfl rfl rfl (op_bin bin_gtr q0 qi)) <| ov [502, 500] (op_pick_f hb18 q0 q1) .nil) fun _ a w h => ?_
      exact ⟨decide ((255 : Int) < a_1), hF, h.sub [0, 1, 2, 3] (by rfl)⟩
  · clear h hF
    rintro a w ⟨x2, hF, h⟩
    unfold ref05_Bit.j1 at hF
    show Code.wp Tryd.prog _ _ a w
    refine cnd h hF 2 [] [0, 1, 3] (fun hb3 hF h => ?_) (fun hb3 hF h => ?_)
    · refine regS mixed hn hG h [500] (ov [] (op_assign qi) .nil) fun _ a w h => ?_
      refine wp_ret ?_
      obtain rfl := Option.some.inj hF
      exact ⟨.inl rfl, ret1 h Tryd.results76 (r_tmp 0 rfl) [] [] rfl rfl rfl⟩
    · refine wp_skip ?_
      show Code.wp Tryd.prog _ _ a w
      obtain ⟨hv4, hF⟩ := ite_some hF
      refine regS mixed hn hG h [0, 500] (ov [0] (op_move q0) <| ov [500] (op_bin (bin_quo (by decide)) q0 qi) <| ov [1, 500] (op_indexAddr_lb Tryd.underlying23 Tryd.sizeOf5 q0 q1 hv4) <| ov [500, 2] (op_load_lbB (i := IntKind.wrap .i64 (a_1.tdiv 8)) [] [] 1 Tryd.isAgg5 q0 rfl rfl hv4) <| ov [500] (op_convert_int Tryd.underlying5 Tryd.underlying3 q0) <| ov [500] (op_assign q0) .nil) fun _ a w h => ?_
      refine wp_seq ?_
      refine regS mixed hn hG h [0, 1, 500] (ov [] (op_assign qi) .nil) fun _ a w h => ?_
      refine wp_block ?_
      obtain ⟨cr12, hl13, hF⟩ := bind_some hF
      refine wp_mono (wp_loopN (R := Int) (S := Int × Int) (fun s a w => SatL c [.slot 1 (intVP .i64 a_1), .slot 5 (intVP .i64 s.1), .slot 6 (intVP .i64 s.2)] a w) (fun res e a w => match res with | .next s => e = .exit 0 ∧ SatL c [.slot 5 (intVP .i64 s.1)] a w | .ret r => e = .ret ∧ RetOk Tryd.prog Tryd.f76 c (intVP .i64 r) (fun _ => []) a w) ?_ _ (IntKind.wrap .i64 ((a_0.getD (IntKind.wrap .i64 (a_1.tdiv 8)).toNat 0).toNat), 0) _ _ _ (h.sub [0, 1, 2] (by rfl)) hl13) ?_
      · clear hl13 hF h
        intro s a w o h hF
        obtain ⟨x6, x7⟩ := s
        change ref05_Bit.b1 a_1 x6 x7 = some o at hF
        unfold ref05_Bit.b1 at hF
        change SatL c [.slot 1 (intVP .i64 a_1), .slot 5 (intVP .i64 x6), .slot 6 (intVP .i64 x7)] a w at h
        refine wp_seq ?_
        refine regS mixed hn hG h [0, 1, 2, 500] (ov [2] (op_move q0) <| ov [0] (op_move q0) <| ov [500] (op_bin (bin_rem (by decide)) q0 qi) <| ov [500] (op_bin bin_sub qi q0) <| ov [503, 500] (op_bin bin_lss q0 q1) .nil) fun _ a w h => ?_
        refine cnd h hF 3 [0, 1, 2] [0, 1, 2] (fun hb11 hF h => ?_) (fun hb11 hF h => ?_)
        · refine wp_skip ?_
          show Code.wp Tryd.prog _ _ a w
          refine wp_seq ?_
          refine wp_block ?_
          refine reg mixed hn hG h [0, 500, 2] (ov [1] (op_move q0) <| ov [500] (op_bin (bin_quo (by decide)) q0 qi) <| od [500] 1 (op_assign q0) .nil) fun _ a w h => ?_
          show Code.wp Tryd.prog _ _ a w
          refine reg mixed hn hG h [0, 1, 500] (ov [2] (op_move q0) <| ov [500] (op_bin bin_add q0 qi) <| od [500] 2 (op_assign q0) .nil) fun _ a w h => ?_
          obtain rfl := Option.some.inj hF
          exact ⟨rfl, h.sub [0, 1, 2] (by rfl)⟩
        · refine wp_exit ?_
          obtain rfl := Option.some.inj hF
          exact ⟨exit_ne _, rfl, h.sub [1] (by rfl)⟩
      · clear hl13
        intro e a w hq
        cases cr12 with
        | ret r14 =>
          obtain ⟨rfl, hq⟩ := hq
          obtain rfl := Option.some.inj hF
          exact ⟨.inl rfl, hq⟩
        | next s15 =>
          obtain ⟨y16, y17⟩ := s15
          obtain ⟨rfl, h⟩ := hq
          change SatL c [.slot 5 (intVP .i64 y16)] a w at h
          refine inBlock_at ?_
          show Code.wp Tryd.prog _ _ a w
          refine regS mixed hn hG h [500] (ov [0] (op_move q0) <| ov [500] (op_bin (bin_rem (by decide)) q0 qi) <| ov [500] (op_assign q0) .nil) fun _ a w h => ?_
          refine wp_ret ?_
          obtain rfl := Option.some.inj hF
          exact ⟨.inl rfl, ret1 h Tryd.results76 (r_tmp 0 rfl) [] [] rfl rfl rfl⟩

def ref05_Sign.j1 (x51 : Int) (x100 : Option O_RLog) (x101 : List (List UInt8)) (x103 : List (List UInt8)) : Option (Flow ((List (List UInt8)) × (List (List UInt8)) × (Option O_RLog)) (Int × (Option O_RLog) × (List (List UInt8)) × (List (List UInt8)))) := some (.cont (IntKind.wrap .i64 (x51 + 1), x100, x101, x103))
def ref05_Sign.b1 (a_1 : List UInt8) (a_2 : Int) (a_3 : List UInt8) (x51 : Int) (x52 : Option O_RLog) (x53 : List (List UInt8)) (x55 : List (List UInt8)) : Option (Flow ((List (List UInt8)) × (List (List UInt8)) × (Option O_RLog)) (Int × (Option O_RLog) × (List (List UInt8)) × (List (List UInt8)))) := (if (decide (x51 < (32 : Int))) = true then ((ref05_Secret x52 a_1 a_2 x51 0).bind fun r85 => ((ref05_Secret r85.2 a_1 a_2 x51 1).bind fun r86 => ((ref05_Bit a_3 x51).bind fun r89 => (if (decide (r89 = (0 : Int))) = true then (if x53.length + [r85.1].length ≤ mxl ∧ (x53.length + [r85.1].length) * 32 ≤ 140737488355328 then ((ref05_Public r86.2 r86.1).bind fun r108 => (if x55.length + [r108.1].length ≤ mxl ∧ (x55.length + [r108.1].length) * 32 ≤ 140737488355328 then ref05_Sign.j1 x51 r108.2 (x53 ++ [r85.1]) (x55 ++ [r108.1]) else none)) else none) else (if x53.length + [r86.1].length ≤ mxl ∧ (x53.length + [r86.1].length) * 32 ≤ 140737488355328 then ((ref05_Public r86.2 r85.1).bind fun r113 => (if x55.length + [r113.1].length ≤ mxl ∧ (x55.length + [r113.1].length) * 32 ≤ 140737488355328 then ref05_Sign.j1 x51 r113.2 (x53 ++ [r86.1]) (x55 ++ [r113.1]) else none)) else none))))) else some (.brk (x51, x52, x53, x55)))
def ref05_Sign (L_0 : Option O_RLog) (a_1 : List UInt8) (a_2 : Int) (a_3 : List UInt8) : Option ((List (List UInt8)) × (List (List UInt8)) × (Option O_RLog)) := ((loopN (fun s : Int × (Option O_RLog) × (List (List UInt8)) × (List (List UInt8)) => ref05_Sign.b1 a_1 a_2 a_3 s.1 s.2.1 s.2.2.1 s.2.2.2) ((32 - 0 : Int).toNat + 2) (0, L_0, [], [])).bind fun cr => match cr with | .ret r => some r | .next (y120, y121, y122, y123) => some (y122, y123, y121))
theorem ref05_Sign_ok {p_0 : Value} {L_0 : Option O_RLog} {a_1 : List UInt8} {a_2 : Int} {a_3 : List UInt8} {r : (List (List UInt8)) × (List (List UInt8)) × (Option O_RLog)} (hF : ref05_Sign L_0 a_1 a_2 a_3 = some r) : CallOk Tryd.prog KG 99 [(eqVP p_0), (aggVP [bytesCk 32 a_1]), (intVP .i64 a_2), (aggVP [bytesCk 32 a_3])] [(RLog_e p_0 L_0)] (fun _ => [RLog_e p_0 r.2.2]) (tupVP [(slVP (dC 32) r.1), (slVP (dC 32) r.2.1)]) := by
  refine CallOk.intro 55 Tryd.func99 rfl Tryd.ntmps99 (Nat.le_of_ble_eq_true rfl) ?_
  intro c a w hG hn h
  unfold ref05_Sign at hF
  change SatL c [.slot 0 (eqVP p_0), .slot 1 (aggVP [bytesCk 32 a_1]), .slot 2 (intVP .i64 a_2), .slot 3 (aggVP [bytesCk 32 a_3]), .res (RLog_e p_0 L_0)] a w at h
  refine regS mixed hn hG h [0, 2, 505, 503, 4, 504, 502] (ob [1] (op_box q0 (cells_agg _)) <| ob [3] (op_box q0 (cells_agg _)) <| ov [] (op_assign (opc (ec _))) <| ov [] (op_assign (opc (ec _))) .nil) fun b1 a w h => ?_
  refine regS mixed hn hG h [0, 1, 2, 3, 501, 500, 4, 5, 6] (ov [] (op_assign (opc (ec _))) <| ov [] (op_assign (opc (ec _))) .nil) fun _ a w h => ?_
  refine wp_seq ?_
  refine regS mixed hn hG h [0, 1, 2, 3, 4, 5, 500, 6, 7, 8] (ov [] (op_assign qi) .nil) fun _ a w h => ?_
  refine wp_block ?_
  obtain ⟨q28, h⟩ : ∃ q28 : Value, SatL c [.slot 0 (eqVP p_0), .slot 2 (intVP .i64 a_2), .slot 5 (lpVP (b1 0) 0), .slot 7 (lpVP (b1 1) 0), .slot 10 (eqVP q28), .slot 11 (eqVP (.slice none 0 0)), .slot 12 (intVP .i64 0), .res (RLog_e p_0 L_0), .res (lb (b1 0) 23 [bytesCk 32 a_1]), .res (lb (b1 1) 23 [bytesCk 32 a_3]), .res (acc q28 23 32 (dC 32) [])] a w := ⟨.slice none 0 0, (h.nilacc 23 32 (dC 32)).sub [0, 1, 2, 3, 4, 5, 6, 7, 8, 9, 10] (by rfl)⟩
  obtain ⟨q29, h⟩ : ∃ q29 : Value, SatL c [.slot 0 (eqVP p_0), .slot 2 (intVP .i64 a_2), .slot 5 (lpVP (b1 0) 0), .slot 7 (lpVP (b1 1) 0), .slot 10 (eqVP q28), .slot 11 (eqVP q29), .slot 12 (intVP .i64 0), .res (RLog_e p_0 L_0), .res (lb (b1 0) 23 [bytesCk 32 a_1]), .res (lb (b1 1) 23 [bytesCk 32 a_3]), .res (acc q28 23 32 (dC 32) []), .res (acc q29 23 32 (dC 32) [])] a w := ⟨.slice none 0 0, (h.nilacc 23 32 (dC 32)).sub [0, 1, 2, 3, 4, 5, 6, 7, 8, 9, 10, 11] (by rfl)⟩
  obtain ⟨cr116, hl117, hF⟩ := bind_some hF
  refine wp_mono (wp_loopN (R := (List (List UInt8)) × (List (List UInt8)) × (Option O_RLog)) (S := Int × (Option O_RLog) × (List (List UInt8)) × (List (List UInt8))) (fun s a w => ∃ q54 : Value, ∃ q56 : Value, SatL c [.slot 0 (eqVP p_0), .slot 2 (intVP .i64 a_2), .slot 5 (lpVP (b1 0) 0), .slot 7 (lpVP (b1 1) 0), .slot 10 (eqVP q54), .slot 11 (eqVP q56), .slot 12 (intVP .i64 s.1), .res (RLog_e p_0 s.2.1), .res (lb (b1 0) 23 [bytesCk 32 a_1]), .res (lb (b1 1) 23 [bytesCk 32 a_3]), .res (acc q54 23 32 (dC 32) s.2.2.1), .res (acc q56 23 32 (dC 32) s.2.2.2)] a w) (fun res e a w => match res with | .next s => e = .exit 0 ∧ ∃ q54 : Value, ∃ q56 : Value, SatL c [.slot 10 (eqVP q54), .slot 11 (eqVP q56), .res (RLog_e p_0 s.2.1), .res (acc q54 23 32 (dC 32) s.2.2.1), .res (acc q56 23 32 (dC 32) s.2.2.2)] a w | .ret r => e = .ret ∧ RetOk Tryd.prog Tryd.f99 c (tupVP [(slVP (dC 32) r.1), (slVP (dC 32) r.2.1)]) (fun _ => [RLog_e p_0 r.2.2]) a w) ?_ _ (0, L_0, [], []) _ _ _ ⟨q28, q29, (h.sub [0, 1, 2, 3, 4, 5, 6, 7, 8, 9, 10, 11] (by rfl))⟩ hl117) ?_
  · clear hl117 hF h
    intro s a w o h hF
    obtain ⟨x51, x52, x53, x55⟩ := s
    obtain ⟨q54, q56, h⟩ := h
    change ref05_Sign.b1 a_1 a_2 a_3 x51 x52 x53 x55 = some o at hF
    unfold ref05_Sign.b1 at hF
    change SatL c [.slot 0 (eqVP p_0), .slot 2 (intVP .i64 a_2), .slot 5 (lpVP (b1 0) 0), .slot 7 (lpVP (b1 1) 0), .slot 10 (eqVP q54), .slot 11 (eqVP q56), .slot 12 (intVP .i64 x51), .res (RLog_e p_0 x52), .res (lb (b1 0) 23 [bytesCk 32 a_1]), .res (lb (b1 1) 23 [bytesCk 32 a_3]), .res (acc q54 23 32 (dC 32) x53), .res (acc q56 23 32 (dC 32) x55)] a w at h
    refine wp_seq ?_
    refine regS mixed hn hG h [0, 1, 2, 3, 4, 5, 6, 500, 7, 8, 9, 10, 11] (ov [6] (op_move q0) <| ov [500] (op_bin bin_lss q0 qi) .nil) fun _ a w h => ?_
    refine cnd h hF 7 [0, 1, 2, 3, 4, 5, 6, 8, 9, 10, 11, 12] [0, 1, 2, 3, 4, 5, 6, 8, 9, 10, 11, 12] (fun hb84 hF h => ?_) (fun hb84 hF h => ?_)
    · refine wp_skip ?_
      show Code.wp Tryd.prog _ _ a w
      refine wp_seq ?_
      refine wp_block ?_
      obtain ⟨r85, hr85, hF⟩ := bind_some hF
      obtain ⟨r86, hr86, hF⟩ := bind_some hF
      refine regS mixed hn hG h [0, 1, 2, 3, 4, 5, 6, 505, 503, 8, 9, 10, 11, 506, 501, 500] (ov [0] (op_move q0) <| ov [2, 8] (op_load_w 1 Tryd.isAgg23 Tryd.sizeOf23 q0) <| ov [1] (op_move q0) <| ov [6] (op_move q0) <| oc [503, 502, 501, 500] [7] Tryd.call74 (ref05_Secret_ok hr85) ⟨q0, q1, q2, q3, qi, trivial⟩ <| ov [0] (op_move q0) <| ov [2, 8] (op_load_w 1 Tryd.isAgg23 Tryd.sizeOf23 q0) <| ov [1] (op_move q0) <| ov [6] (op_move q0) <| oc [503, 502, 501, 500] [504] Tryd.call74 (ref05_Secret_ok hr86) ⟨q0, q1, q2, q3, qi, trivial⟩ <| ob [] (op_alloc Tryd.zeroValue23 z23) <| ob [] (op_alloc Tryd.zeroValue23 z23) <| og [503, 511] [502] [.res 10 100000 (fun v1_ _ => (lb (v1_) 23 [bytesCk 32 r85.1]))] (GOk.plain (op_store_w Tryd.sizeOf23 q0 q1 (cells_agg _)) rfl) <| og [502, 506] [501] [.res 11 100000 (fun v1_ _ => (lb (v1_) 23 [bytesCk 32 r86.1]))] (GOk.plain (op_store_w Tryd.sizeOf23 q0 q1 (cells_agg _)) rfl) .nil) fun b87 a w h => ?_
      obtain ⟨r89, hr89, hF⟩ := bind_some hF
      refine regS mixed hn hG h [0, 1, 2, 3, 4, 5, 6, 7, 8, 500, 9, 10, 11, 12, 13, 14, 15] (ov [3, 10] (op_load_w 1 Tryd.isAgg23 Tryd.sizeOf23 q0) <| ov [6] (op_move q0) <| oc [501, 500] [] Tryd.call76 (ref05_Bit_ok hr89) ⟨q0, q1, trivial⟩ <| ov [500] (op_bin bin_eql q0 qi) .nil) fun _ a w h => ?_
      refine wp_cut (fun a w => ∃ (x100 : Option O_RLog), ∃ (x101 : List (List UInt8)), ∃ (x103 : List (List UInt8)), ∃ q102 : Value, ∃ q104 : Value, ref05_Sign.j1 x51 x100 x101 x103 = some o ∧ SatL c [.slot 0 (eqVP p_0), .slot 2 (intVP .i64 a_2), .slot 5 (lpVP (b1 0) 0), .slot 7 (lpVP (b1 1) 0), .slot 10 (eqVP q102), .slot 11 (eqVP q104), .slot 12 (intVP .i64 x51), .res (lb (b1 0) 23 [bytesCk 32 a_1]), .res (lb (b1 1) 23 [bytesCk 32 a_3]), .res (RLog_e p_0 x100), .res (acc q102 23 32 (dC 32) x101), .res (acc q104 23 32 (dC 32) x103)] a w) ?_ ?_
      · refine cnd h hF 9 [0, 1, 2, 3, 4, 5, 6, 7, 8, 10, 11, 12, 13, 14, 15, 16] [0, 1, 2, 3, 4, 5, 6, 7, 8, 10, 11, 12, 13, 14, 15, 16] (fun hb105 hF h => ?_) (fun hb105 hF h => ?_)
        · obtain ⟨hv106, hF⟩ := ite_some hF
          refine regS mixed hn hG h [0, 1, 2, 3, 500, 5, 6, 8, 9, 10, 12, 13, 15, 501] (ov [4] (op_move q0) <| ov [7, 14] (op_load_w 1 Tryd.isAgg23 Tryd.sizeOf23 q0) <| ov [500] (op_lit (xs := [.tmp 34]) (ys := [r85.1]) _ rfl Tryd.underlying24 Tryd.sizeOf23 Tryd.zeroValue23 rfl rfl (by decide) (by decide) ⟨⟨_, q0, (cells_agg _)⟩, trivial⟩ (lens_dC 32)) <| og [502, 500] [11] [.slot 36 3 100000 (fun v1_ _ => (eqVP v1_)), .res 3 100000 (fun v1_ _ => (acc (v1_) 23 32 (dC 32) (x53 ++ [r85.1])))] (GOk.plain (op_append (i := Tryd.t23) Tryd.underlying24 Tryd.type23 rfl (lens_dC 32) (by decide) rfl q0 q1 hv106) rfl) <| og [501] [4] [.slot 10 3 100000 (fun v1_ _ => (eqVP v1_))] (fun {β} => (GOk.drop _ (GOk.plain (op_assign (V := (eqVP (β 3))) q0) rfl))) .nil) fun b107 a w h => ?_
          obtain ⟨r108, hr108, hF⟩ := bind_some hF
          obtain ⟨hv109, hF⟩ := ite_some hF
          refine reg mixed hn hG h [0, 1, 2, 3, 4, 500, 6, 8, 9, 13, 504, 501] (ov [5] (op_move q0) <| ov [0] (op_move q0) <| ov [7, 12] (op_load_w 1 Tryd.isAgg23 Tryd.sizeOf23 q0) <| oc [501, 500] [11] Tryd.call73 (ref05_Public_ok hr108) ⟨q0, q1, trivial⟩ <| ov [501] (op_lit (xs := [.tmp 40]) (ys := [r108.1]) _ rfl Tryd.underlying24 Tryd.sizeOf23 Tryd.zeroValue23 rfl rfl (by decide) (by decide) ⟨⟨_, q0, (cells_agg _)⟩, trivial⟩ (lens_dC 32)) <| og [505, 500] [10] [.slot 42 5 100000 (fun v1_ _ => (eqVP v1_)), .res 5 100000 (fun v1_ _ => (acc (v1_) 23 32 (dC 32) (x55 ++ [r108.1])))] (GOk.plain (op_append (i := Tryd.t23) Tryd.underlying24 Tryd.type23 rfl (lens_dC 32) (by decide) rfl q0 q1 hv109) rfl) <| og [501] [5] [.slot 11 5 100000 (fun v1_ _ => (eqVP v1_))] (fun {β} => (GOk.drop _ (GOk.plain (op_assign (V := (eqVP (β 5))) q0) rfl))) .nil) fun b110 a w h => ?_
          exact ⟨r108.2, x53 ++ [r85.1], x55 ++ [r108.1], (b107 3), (b110 5), hF, h.sub [0, 1, 2, 3, 4, 5, 6, 7, 8, 10, 9, 11] (by rfl)⟩
        · obtain ⟨hv111, hF⟩ := ite_some hF
          refine regS mixed hn hG h [0, 1, 2, 3, 500, 5, 6, 7, 9, 10, 12, 13, 14, 501] (ov [4] (op_move q0) <| ov [8, 15] (op_load_w 1 Tryd.isAgg23 Tryd.sizeOf23 q0) <| ov [500] (op_lit (xs := [.tmp 44]) (ys := [r86.1]) _ rfl Tryd.underlying24 Tryd.sizeOf23 Tryd.zeroValue23 rfl rfl (by decide) (by decide) ⟨⟨_, q0, (cells_agg _)⟩, trivial⟩ (lens_dC 32)) <| og [502, 500] [11] [.slot 46 3 100000 (fun v1_ _ => (eqVP v1_)), .res 3 100000 (fun v1_ _ => (acc (v1_) 23 32 (dC 32) (x53 ++ [r86.1])))] (GOk.plain (op_append (i := Tryd.t23) Tryd.underlying24 Tryd.type23 rfl (lens_dC 32) (by decide) rfl q0 q1 hv111) rfl) <| og [501] [4] [.slot 10 3 100000 (fun v1_ _ => (eqVP v1_))] (fun {β} => (GOk.drop _ (GOk.plain (op_assign (V := (eqVP (β 3))) q0) rfl))) .nil) fun b112 a w h => ?_
          obtain ⟨r113, hr113, hF⟩ := bind_some hF
          obtain ⟨hv114, hF⟩ := ite_some hF
          refine reg mixed hn hG h [0, 1, 2, 3, 4, 500, 6, 8, 9, 13, 504, 501] (ov [5] (op_move q0) <| ov [0] (op_move q0) <| ov [7, 12] (op_load_w 1 Tryd.isAgg23 Tryd.sizeOf23 q0) <| oc [501, 500] [11] Tryd.call73 (ref05_Public_ok hr113) ⟨q0, q1, trivial⟩ <| ov [501] (op_lit (xs := [.tmp 50]) (ys := [r113.1]) _ rfl Tryd.underlying24 Tryd.sizeOf23 Tryd.zeroValue23 rfl rfl (by decide) (by decide) ⟨⟨_, q0, (cells_agg _)⟩, trivial⟩ (lens_dC 32)) <| og [505, 500] [10] [.slot 52 5 100000 (fun v1_ _ => (eqVP v1_)), .res 5 100000 (fun v1_ _ => (acc (v1_) 23 32 (dC 32) (x55 ++ [r113.1])))] (GOk.plain (op_append (i := Tryd.t23) Tryd.underlying24 Tryd.type23 rfl (lens_dC 32) (by decide) rfl q0 q1 hv114) rfl) <| og [501] [5] [.slot 11 5 100000 (fun v1_ _ => (eqVP v1_))] (fun {β} => (GOk.drop _ (GOk.plain (op_assign (V := (eqVP (β 5))) q0) rfl))) .nil) fun b115 a w h => ?_
          exact ⟨r113.2, x53 ++ [r86.1], x55 ++ [r113.1], (b112 3), (b115 5), hF, h.sub [0, 1, 2, 3, 4, 5, 6, 7, 8, 10, 9, 11] (by rfl)⟩
      · clear h hF
        rintro a w ⟨x100, x101, x103, q102, q104, hF, h⟩
        unfold ref05_Sign.j1 at hF
        show Code.wp Tryd.prog _ _ a w
        refine reg mixed hn hG h [0, 1, 2, 3, 4, 5, 500, 7, 8, 9, 10, 11] (ov [6] (op_move q0) <| ov [500] (op_bin bin_add q0 qi) <| od [500] 6 (op_assign q0) .nil) fun _ a w h => ?_
        obtain rfl := Option.some.inj hF
        exact ⟨rfl, q102, q104, h.sub [0, 1, 2, 3, 4, 5, 6, 9, 7, 8, 10, 11] (by rfl)⟩
    · refine wp_exit ?_
      obtain rfl := Option.some.inj hF
      exact ⟨exit_ne _, rfl, q54, q56, h.sub [4, 5, 7, 10, 11] (by rfl)⟩
  · clear hl117
    intro e a w hq
    cases cr116 with
    | ret r118 =>
      obtain ⟨rfl, hq⟩ := hq
      obtain rfl := Option.some.inj hF
      exact ⟨.inl rfl, hq⟩
    | next s119 =>
      obtain ⟨y120, y121, y122, y123⟩ := s119
      obtain ⟨rfl, q54, q56, h⟩ := hq
      change SatL c [.slot 10 (eqVP q54), .slot 11 (eqVP q56), .res (RLog_e p_0 y121), .res (acc q54 23 32 (dC 32) y122), .res (acc q56 23 32 (dC 32) y123)] a w at h
      refine inBlock_at ?_
      show Code.wp Tryd.prog _ _ a w
      refine regS mixed hn hG h [501, 500, 2, 3, 4] (ov [0] (op_move q0) <| ov [1] (op_move q0) <| ov [501] (op_assign q0) <| ov [501] (op_assign q0) .nil) fun _ a w h => ?_
      refine wp_ret ?_
      obtain rfl := Option.some.inj hF
      exact ⟨.inl rfl, retn h (rs := [.tmp 8, .tmp 9]) (Vs := [(slVP (dC 32) y122), (slVP (dC 32) y123)]) Tryd.results99 (by decide) ⟨(r_acc 0 3 rfl rfl), (r_acc 1 4 rfl rfl), trivial⟩ [2] [(RLog_e p_0 y121)] rfl rfl rfl⟩

def ref06_Signer_Again.j2 (a_0 : S_ref06_Signer) (x15 : Int) (x16 : Int) (x17 : Option O_RLog) (x18 : Option S_api_Sig) (x32 : Int) : Option (Flow (S_api_Sig × Int × (Option O_RLog)) (Int × Int × (Option O_RLog) × (Option S_api_Sig))) := ((x18).bind fun s33 => ((ref06_node x17 a_0.f_Leaves x16 x32).bind fun r36 => (if s33.f_Path.length + [r36.1].length ≤ mxl ∧ (s33.f_Path.length + [r36.1].length) * 32 ≤ 140737488355328 then some (.cont (IntKind.wrap .i64 (x15.tdiv 2), IntKind.wrap .i64 (x16 + 1), r36.2, (some ⟨s33.f_Index, s33.f_Parts, s33.f_Others, s33.f_Path ++ [r36.1]⟩))) else none)))
def ref06_Signer_Again.b1 (a_0 : S_ref06_Signer) (x15 : Int) (x16 : Int) (x17 : Option O_RLog) (x18 : Option S_api_Sig) : Option (Flow (S_api_Sig × Int × (Option O_RLog)) (Int × Int × (Option O_RLog) × (Option S_api_Sig))) := (if (decide (x16 < (4 : Int))) = true then (if (decide ((x15.tmod 2) = (1 : Int))) = true then ref06_Signer_Again.j2 a_0 x15 x16 x17 x18 (IntKind.wrap .i64 (x15 - 1)) else ref06_Signer_Again.j2 a_0 x15 x16 x17 x18 (IntKind.wrap .i64 (x15 + 1))) else some (.brk (x15, x16, x17, x18)))
def ref06_Signer_Again.j1 (a_0 : S_ref06_Signer) (L_1 : Option O_RLog) (a_2 : Int) (a_3 : List UInt8) (x4 : Bool) : Option (S_api_Sig × Int × (Option O_RLog)) := (if x4 = true then some ((S_api_Sig.mk (0 : Int) [] [] []), 2, L_1) else ((ref05_Sign L_1 a_0.f_Seed a_2 a_3).bind fun r7 => ((ref06_node r7.2.2 a_0.f_Leaves 4 0).bind fun r8 => ((loopN (fun s : Int × Int × (Option O_RLog) × (Option S_api_Sig) => ref06_Signer_Again.b1 a_0 s.1 s.2.1 s.2.2.1 s.2.2.2) ((4 - 0 : Int).toNat + 2) (a_2, 0, r8.2, (some ⟨a_2, r7.1, r7.2.1, []⟩))).bind fun cr => match cr with | .ret r => some r | .next (y44, y45, y46, y47) => ((y47).bind fun s48 => some (s48, 0, y46))))))
def ref06_Signer_Again (a_0 : S_ref06_Signer) (L_1 : Option O_RLog) (a_2 : Int) (a_3 : List UInt8) : Option (S_api_Sig × Int × (Option O_RLog)) := (if (!decide ((a_0.f_Leaves.length : Int) = (16 : Int))) = true then ref06_Signer_Again.j1 a_0 L_1 a_2 a_3 true else (if (decide (a_2 < (0 : Int))) = true then ref06_Signer_Again.j1 a_0 L_1 a_2 a_3 true else ref06_Signer_Again.j1 a_0 L_1 a_2 a_3 (decide ((15 : Int) < a_2))))
theorem ref06_Signer_Again_ok {p_1 : Value} {a_0 : S_ref06_Signer} {L_1 : Option O_RLog} {a_2 : Int} {a_3 : List UInt8} {r : S_api_Sig × Int × (Option O_RLog)} (hF : ref06_Signer_Again a_0 L_1 a_2 a_3 = some r) : CallOk Tryd.prog KG 85 [(aggVP [bytesCk 32 a_0.f_Seed, one (intVP .i64 a_0.f_Next), one (slVP (dC 32) a_0.f_Leaves)]), (eqVP p_1), (intVP .i64 a_2), (aggVP [bytesCk 32 a_3])] [(RLog_e p_1 L_1)] (fun _ => [RLog_e p_1 r.2.2]) (tupVP [(aggVP [one (intVP .i64 r.1.f_Index), one (slVP (dC 32) r.1.f_Parts), one (slVP (dC 32) r.1.f_Others), one (slVP (dC 32) r.1.f_Path)]), (intVP .i64 r.2.1)]) := by
  refine CallOk.intro 70 Tryd.func85 rfl Tryd.ntmps85 (Nat.le_of_ble_eq_true rfl) ?_
  intro c a w hG hn h
  unfold ref06_Signer_Again at hF
  change SatL c [.slot 0 (aggVP [bytesCk 32 a_0.f_Seed, one (intVP .i64 a_0.f_Next), one (slVP (dC 32) a_0.f_Leaves)]), .slot 1 (eqVP p_1), .slot 2 (intVP .i64 a_2), .slot 3 (aggVP [bytesCk 32 a_3]), .res (RLog_e p_1 L_1)] a w at h
  refine regS mixed hn hG h [1, 2, 506, 504, 502, 4, 505, 503, 501] (ob [0] (op_box q0 (cells_agg _)) <| ob [3] (op_box q0 (cells_agg _)) <| ob [] (op_alloc Tryd.zeroValue31 z31) <| ov [] (op_assign qi) .nil) fun b1 a w h => ?_
  refine wp_seq ?_
  refine wp_seq ?_
  refine wp_cut (fun a w => ∃ (x4 : Bool), ref06_Signer_Again.j1 a_0 L_1 a_2 a_3 x4 = some r ∧ SatL c [.slot 1 (eqVP p_1), .slot 2 (intVP .i64 a_2), .slot 4 (lpVP (b1 0) 0), .slot 7 (lpVP (b1 1) 0), .slot 8 (lpVP (b1 2) 0), .slot 25 (boolVP x4), .res (RLog_e p_1 L_1), .res (lb (b1 0) 36 [bytesCk 32 a_0.f_Seed, one (intVP .i64 a_0.f_Next), one (slVP (dC 32) a_0.f_Leaves)]), .res (lb (b1 1) 23 [bytesCk 32 a_3]), .res (lb (b1 2) 31 [one (intVP .i64 ((S_api_Sig.mk (0 : Int) [] [] []).f_Index)), one (slVP (dC 32) ((S_api_Sig.mk (0 : Int) [] [] []).f_Parts)), one (slVP (dC 32) ((S_api_Sig.mk (0 : Int) [] [] []).f_Others)), one (slVP (dC 32) ((S_api_Sig.mk (0 : Int) [] [] []).f_Path))])] a w) ?_ ?_
  · rcases Bool.eq_false_or_eq_true (!decide ((a_0.f_Leaves.length : Int) = (16 : Int))) with hb51 | hb51
    · replace hF := tt_of hb51 hF
      refine reg mixed hn hG h [0, 1, 2, 3, 4, 500, 5, 6, 7, 8] (ov [2] (op_fieldAddr_lbm (p := (b1 0)) (n := 1) 0 33 Tryd.underlying36 rfl Tryd.sizeOf24 (by decide) q0 rfl) <| ov [500, 6] (op_load_lb1 [bytesCk 32 a_0.f_Seed, one (intVP .i64 a_0.f_Next)] [] 1 Tryd.isAgg24 q0 rfl rfl) <| ov [500] (op_len_sl Tryd.underlying24 q0) <| ov [500] (op_bin bin_neq q0 qi) <| ov [500] (op_move q0) <| oe [500] [] (GOk.off_v (want := false) hb51 rfl rfl rfl rfl) <| oe [501] [] (GOk.off_v (want := false) hb51 rfl rfl rfl rfl) <| ov [502] (op_pick_t hb51 q0 qb) <| ov [500] (op_move q0) <| oe [500] [] (GOk.off_v (want := false) rfl rfl rfl rfl rfl) <| oe [501] [] (GOk.off_v (want := false) rfl rfl rfl rfl rfl) <| ov [502] (op_pick_t rfl q0 qb) .nil) fun _ a w h => ?_
      exact ⟨true, hF, h.sub [0, 1, 2, 3, 4, 5, 6, 7, 8, 9] (by rfl)⟩
    · replace hF := ff_of hb51 hF
      rcases Bool.eq_false_or_eq_true (decide (a_2 < (0 : Int))) with hb52 | hb52
      · replace hF := tt_of hb52 hF
        refine reg mixed hn hG h [0, 1, 2, 3, 4, 500, 5, 6, 7, 8] (ov [2] (op_fieldAddr_lbm (p := (b1 0)) (n := 1) 0 33 Tryd.underlying36 rfl Tryd.sizeOf24 (by decide) q0 rfl) <| ov [500, 6] (op_load_lb1 [bytesCk 32 a_0.f_Seed, one (intVP .i64 a_0.f_Next)] [] 1 Tryd.isAgg24 q0 rfl rfl) <| ov [500] (op_len_sl Tryd.underlying24 q0) <| ov [500] (op_bin bin_neq q0 qi) <| ov [500] (op_move q0) <| oe [500, 1] [] (GOk.on_eq hb51 rfl rfl rfl (op_move q0)) <| oe [501, 500] [] (GOk.on_eq hb51 rfl rfl rfl (op_bin bin_lss q0 qi)) <| ov [502, 500] (op_pick_f hb51 q0 q1) <| ov [500] (op_move q0) <| oe [500] [] (GOk.off_v (want := false) hb52 rfl rfl rfl rfl) <| oe [501] [] (GOk.off_v (want := false) hb52 rfl rfl rfl rfl) <| ov [502] (op_pick_t hb52 q0 qb) .nil) fun _ a w h => ?_
        exact ⟨true, hF, h.sub [0, 1, 2, 3, 4, 5, 6, 7, 8, 9] (by rfl)⟩
      · replace hF := ff_of hb52 hF
        refine reg mixed hn hG h [0, 1, 2, 3, 4, 500, 5, 6, 7, 8] (ov [2] (op_fieldAddr_lbm (p := (b1 0)) (n := 1) 0 33 Tryd.underlying36 rfl Tryd.sizeOf24 (by decide) q0 rfl) <| ov [500, 6] (op_load_lb1 [bytesCk 32 a_0.f_Seed, one (intVP .i64 a_0.f_Next)] [] 1 Tryd.isAgg24 q0 rfl rfl) <| ov [500] (op_len_sl Tryd.underlying24 q0) <| ov [500] (op_bin bin_neq q0 qi) <| ov [500] (op_move q0) <| oe [500, 1] [] (GOk.on_eq hb51 rfl rfl rfl (op_move q0)) <| oe [501, 500] [] (GOk.on_eq hb51 rfl rfl rfl (op_bin bin_lss q0 qi)) <| ov [502, 500] (op_pick_f hb51 q0 q1) <| ov [500] (op_move q0) <| oe [500, 1] [] (GOk.on_eq hb52 rfl rfl rfl (op_move q0)) <| oe [501, 500] [] (GOk.on_eq hb52 rfl rfl rfl (op_bin bin_gtr q0 qi)) <| ov [502, 500] (op_pick_f hb52 q0 q1) .nil) fun _ a w h => ?_
        exact ⟨decide ((15 : Int) < a_2), hF, h.sub [0, 1, 2, 3, 4, 5, 6, 7, 8, 9] (by rfl)⟩
  · clear h hF
    rintro a w ⟨x4, hF, h⟩
    unfold ref06_Signer_Again.j1 at hF
    show Code.wp Tryd.prog _ _ a w
    refine cnd h hF 5 [4, 6, 9] [0, 1, 2, 3, 4, 6, 7, 8, 9] (fun hb5 hF h => ?_) (fun hb5 hF h => ?_)
    · refine regS mixed hn hG h [0, 500, 1, 501] (ov [] (op_build [] rfl bu31 z31 rfl) <| ou [0, 500] 2 (op_store_w Tryd.sizeOf31 q0 q1 (cells_agg _)) <| ov [] (op_assign qi) .nil) fun _ a w h => ?_
      refine wp_ret ?_
      obtain rfl := Option.some.inj hF
      exact ⟨.inl rfl, retn h (rs := [.cell 8 31, .tmp 9]) (Vs := [(aggVP [one (intVP .i64 (0 : Int)), one (slVP (dC 32) []), one (slVP (dC 32) []), one (slVP (dC 32) [])]), (intVP .i64 2)]) Tryd.results85 (by decide) ⟨(r_cell 0 3 rfl rfl Tryd.isAgg31 Tryd.sizeOf31 rfl), (r_tmp 1 rfl), trivial⟩ [2] [(RLog_e p_1 L_1)] rfl rfl rfl⟩
    · refine wp_skip ?_
      show Code.wp Tryd.prog _ _ a w
      refine regS mixed hn hG h [0, 1, 2, 3, 4, 502, 5, 6, 7, 8, 500] (ov [1] (op_move q0) <| ov [500] (op_build [(0, .tmp 27)] rfl bu31 zo31 ⟨[], [one (intVP .i64 (0 : Int))], [one (slVP (dC 32) []), one (slVP (dC 32) []), one (eqVP (.slice none 0 0))], [one (intVP .i64 a_2)], _, rfl, rfl, rfl, q0, (cells_one (one_int _ _)), rfl⟩) <| ob [] (op_alloc Tryd.zeroValue31 zo31) <| og [501, 502] [500] [.res 2 100000 (fun v1_ _ => (lb (v1_) 31 [one (intVP .i64 a_2), one (slVP (dC 32) []), one (slVP (dC 32) []), one (eqVP (.slice none 0 0))]))] (GOk.plain (op_store_w Tryd.sizeOf31 q0 q1 (cells_agg _)) rfl) .nil) fun b6 a w h => ?_
      obtain ⟨r7, hr7, hF⟩ := bind_some hF
      refine regS mixed hn hG h [0, 1, 2, 4, 5, 7, 9, 500, 507] (ov [0] (op_move q0) <| ov [2] (op_fieldAddr_lbm (p := (b1 0)) (n := 32) 0 0 Tryd.underlying36 rfl Tryd.sizeOf23 (by decide) q0 rfl) <| ov [500, 7] (op_load_lb [] [bytesCk 32 a_0.f_Seed] [one (intVP .i64 a_0.f_Next), one (slVP (dC 32) a_0.f_Leaves)] 1 Tryd.isAgg23 Tryd.sizeOf23 q0 rfl rfl rfl) <| ov [1] (op_move q0) <| ov [3, 8] (op_load_w 1 Tryd.isAgg23 Tryd.sizeOf23 q0) <| oc [504, 502, 501, 500] [6] Tryd.call99 (ref05_Sign_ok hr7) ⟨q0, q1, q2, q3, trivial⟩ <| ov [501] (op_move q0) <| ov [500] (op_extract q0 rfl) <| ov [501] (op_extract q0 rfl) <| ov [5] (op_fieldAddr_lbm (p := (b6 2)) (n := 1) 0 1 Tryd.underlying31 rfl Tryd.sizeOf24 (by decide) q0 rfl) <| ou [500, 502] 10 (op_store_lb [one (intVP .i64 a_2)] [one (slVP (dC 32) [])] [one (slVP (dC 32) []), one (eqVP (.slice none 0 0))] [one (slVP (dC 32) r7.1)] Tryd.sizeOf24 q0 q1 (cells_one (one_sl _ _)) rfl rfl rfl) <| ov [5] (op_fieldAddr_lbm (p := (b6 2)) (n := 1) 0 2 Tryd.underlying31 rfl Tryd.sizeOf24 (by decide) q0 rfl) <| ou [500, 503] 501 (op_store_lb [one (intVP .i64 a_2), one (slVP (dC 32) r7.1)] [one (slVP (dC 32) [])] [one (eqVP (.slice none 0 0))] [one (slVP (dC 32) r7.2.1)] Tryd.sizeOf24 q0 q1 (cells_one (one_sl _ _)) rfl rfl rfl) .nil) fun _ a w h => ?_
      obtain ⟨r8, hr8, hF⟩ := bind_some hF
      refine regS mixed hn hG h [0, 1, 2, 3, 4, 5, 6, 7, 500] (ov [0] (op_move q0) <| ov [2] (op_fieldAddr_lbm (p := (b1 0)) (n := 1) 0 33 Tryd.underlying36 rfl Tryd.sizeOf24 (by decide) q0 rfl) <| ov [500, 5] (op_load_lb1 [bytesCk 32 a_0.f_Seed, one (intVP .i64 a_0.f_Next)] [] 1 Tryd.isAgg24 q0 rfl rfl) <| oc [502, 500] [8] Tryd.call56 (ref06_node_ok hr8) ⟨q0, q1, qi, qi, trivial⟩ .nil) fun _ a w h => ?_
      refine regS mixed hn hG h [0, 2, 3, 4, 500, 5, 6, 7, 8] (ov [1] (op_move q0) <| ov [500] (op_assign q0) .nil) fun _ a w h => ?_
      refine wp_seq ?_
      refine regS mixed hn hG h [0, 1, 2, 3, 4, 500, 5, 6, 7, 8] (ov [] (op_assign qi) .nil) fun _ a w h => ?_
      refine wp_block ?_
      replace h := h.nilacc 23 32 (dC 32)
      replace h := h.unsep 8 10 rfl rfl (by decide)
      replace h := h.conv 8 rfl (R' := RSg_e (b6 2) (some ⟨a_2, r7.1, r7.2.1, []⟩)) (RSg_packo (v3 := (.slice none 0 0)) (o := (some ⟨a_2, r7.1, r7.2.1, []⟩)))
      replace h := h.slotc 3 rfl (fun _ _ h => lp_eqv h)
      replace h := h.sub [0, 1, 2, 3, 4, 5, 6, 7, 9, 8] (by rfl)
      change SatL c [.slot 1 (eqVP p_1), .slot 4 (lpVP (b1 0) 0), .slot 8 (lpVP (b1 2) 0), .slot 10 (eqVP (b6 2)), .slot 11 (intVP .i64 a_2), .slot 12 (intVP .i64 0), .res (lb (b1 0) 36 [bytesCk 32 a_0.f_Seed, one (intVP .i64 a_0.f_Next), one (slVP (dC 32) a_0.f_Leaves)]), .res (lb (b1 2) 31 [one (intVP .i64 ((S_api_Sig.mk (0 : Int) [] [] []).f_Index)), one (slVP (dC 32) ((S_api_Sig.mk (0 : Int) [] [] []).f_Parts)), one (slVP (dC 32) ((S_api_Sig.mk (0 : Int) [] [] []).f_Others)), one (slVP (dC 32) ((S_api_Sig.mk (0 : Int) [] [] []).f_Path))]), .res (RLog_e p_1 r8.2), .res (RSg_e (b6 2) (some ⟨a_2, r7.1, r7.2.1, []⟩))] a w at h
      obtain ⟨cr40, hl41, hF⟩ := bind_some hF
      refine wp_mono (wp_loopN (R := S_api_Sig × Int × (Option O_RLog)) (S := Int × Int × (Option O_RLog) × (Option S_api_Sig)) (fun s a w => SatL c [.slot 1 (eqVP p_1), .slot 4 (lpVP (b1 0) 0), .slot 8 (lpVP (b1 2) 0), .slot 10 (eqVP (b6 2)), .slot 11 (intVP .i64 s.1), .slot 12 (intVP .i64 s.2.1), .res (lb (b1 0) 36 [bytesCk 32 a_0.f_Seed, one (intVP .i64 a_0.f_Next), one (slVP (dC 32) a_0.f_Leaves)]), .res (lb (b1 2) 31 [one (intVP .i64 ((S_api_Sig.mk (0 : Int) [] [] []).f_Index)), one (slVP (dC 32) ((S_api_Sig.mk (0 : Int) [] [] []).f_Parts)), one (slVP (dC 32) ((S_api_Sig.mk (0 : Int) [] [] []).f_Others)), one (slVP (dC 32) ((S_api_Sig.mk (0 : Int) [] [] []).f_Path))]), .res (RLog_e p_1 s.2.2.1), .res (RSg_e (b6 2) s.2.2.2)] a w) (fun res e a w => match res with | .next s => e = .exit 0 ∧ SatL c [.slot 8 (lpVP (b1 2) 0), .slot 10 (eqVP (b6 2)), .res (lb (b1 2) 31 [one (intVP .i64 ((S_api_Sig.mk (0 : Int) [] [] []).f_Index)), one (slVP (dC 32) ((S_api_Sig.mk (0 : Int) [] [] []).f_Parts)), one (slVP (dC 32) ((S_api_Sig.mk (0 : Int) [] [] []).f_Others)), one (slVP (dC 32) ((S_api_Sig.mk (0 : Int) [] [] []).f_Path))]), .res (RLog_e p_1 s.2.2.1), .res (RSg_e (b6 2) s.2.2.2)] a w | .ret r => e = .ret ∧ RetOk Tryd.prog Tryd.f85 c (tupVP [(aggVP [one (intVP .i64 r.1.f_Index), one (slVP (dC 32) r.1.f_Parts), one (slVP (dC 32) r.1.f_Others), one (slVP (dC 32) r.1.f_Path)]), (intVP .i64 r.2.1)]) (fun _ => [RLog_e p_1 r.2.2]) a w) ?_ _ (a_2, 0, r8.2, (some ⟨a_2, r7.1, r7.2.1, []⟩)) _ _ _ (h.sub [0, 1, 2, 3, 4, 5, 6, 7, 8, 9] (by rfl)) hl41) ?_
      · clear hl41 hF h
        intro s a w o h hF
        obtain ⟨x15, x16, x17, x18⟩ := s
        change ref06_Signer_Again.b1 a_0 x15 x16 x17 x18 = some o at hF
        unfold ref06_Signer_Again.b1 at hF
        change SatL c [.slot 1 (eqVP p_1), .slot 4 (lpVP (b1 0) 0), .slot 8 (lpVP (b1 2) 0), .slot 10 (eqVP (b6 2)), .slot 11 (intVP .i64 x15), .slot 12 (intVP .i64 x16), .res (lb (b1 0) 36 [bytesCk 32 a_0.f_Seed, one (intVP .i64 a_0.f_Next), one (slVP (dC 32) a_0.f_Leaves)]), .res (lb (b1 2) 31 [one (intVP .i64 ((S_api_Sig.mk (0 : Int) [] [] []).f_Index)), one (slVP (dC 32) ((S_api_Sig.mk (0 : Int) [] [] []).f_Parts)), one (slVP (dC 32) ((S_api_Sig.mk (0 : Int) [] [] []).f_Others)), one (slVP (dC 32) ((S_api_Sig.mk (0 : Int) [] [] []).f_Path))]), .res (RLog_e p_1 x17), .res (RSg_e (b6 2) x18)] a w at h
        refine wp_seq ?_
        refine regS mixed hn hG h [0, 1, 2, 3, 4, 5, 500, 6, 7, 8, 9] (ov [5] (op_move q0) <| ov [500] (op_bin bin_lss q0 qi) .nil) fun _ a w h => ?_
        refine cnd h hF 6 [0, 1, 2, 3, 4, 5, 7, 8, 9, 10] [0, 1, 2, 3, 4, 5, 7, 8, 9, 10] (fun hb31 hF h => ?_) (fun hb31 hF h => ?_)
        · refine wp_skip ?_
          show Code.wp Tryd.prog _ _ a w
          refine wp_seq ?_
          refine wp_block ?_
          refine regS mixed hn hG h [0, 1, 2, 3, 4, 5, 500, 6, 7, 8, 9] (ov [4] (op_move q0) <| ov [500] (op_bin bin_add q0 qi) <| ov [500] (op_assign q0) .nil) fun _ a w h => ?_
          refine wp_seq ?_
          refine regS mixed hn hG h [0, 1, 2, 3, 4, 5, 6, 500, 7, 8, 9, 10] (ov [4] (op_move q0) <| ov [500] (op_bin (bin_rem (by decide)) q0 qi) <| ov [500] (op_bin bin_eql q0 qi) .nil) fun _ a w h => ?_
          refine wp_cut (fun a w => ∃ (x32 : Int), ref06_Signer_Again.j2 a_0 x15 x16 x17 x18 x32 = some o ∧ SatL c [.slot 1 (eqVP p_1), .slot 4 (lpVP (b1 0) 0), .slot 8 (lpVP (b1 2) 0), .slot 10 (eqVP (b6 2)), .slot 11 (intVP .i64 x15), .slot 12 (intVP .i64 x16), .slot 13 (intVP .i64 x32), .res (lb (b1 0) 36 [bytesCk 32 a_0.f_Seed, one (intVP .i64 a_0.f_Next), one (slVP (dC 32) a_0.f_Leaves)]), .res (lb (b1 2) 31 [one (intVP .i64 ((S_api_Sig.mk (0 : Int) [] [] []).f_Index)), one (slVP (dC 32) ((S_api_Sig.mk (0 : Int) [] [] []).f_Parts)), one (slVP (dC 32) ((S_api_Sig.mk (0 : Int) [] [] []).f_Others)), one (slVP (dC 32) ((S_api_Sig.mk (0 : Int) [] [] []).f_Path))]), .res (RLog_e p_1 x17), .res (RSg_e (b6 2) x18)] a w) ?_ ?_
          · refine cnd h hF 7 [0, 1, 2, 3, 4, 5, 8, 9, 10, 11] [0, 1, 2, 3, 4, 5, 6, 8, 9, 10, 11] (fun hb39 hF h => ?_) (fun hb39 hF h => ?_)
            · refine reg mixed hn hG h [0, 1, 2, 3, 4, 5, 500, 6, 7, 8, 9] (ov [4] (op_move q0) <| ov [500] (op_bin bin_sub q0 qi) <| ov [500] (op_assign q0) .nil) fun _ a w h => ?_
              exact ⟨IntKind.wrap .i64 (x15 - 1), hF, h.sub [0, 1, 2, 3, 4, 5, 6, 7, 8, 9, 10] (by rfl)⟩
            · refine wp_skip ?_
              exact ⟨IntKind.wrap .i64 (x15 + 1), hF, h.sub [0, 1, 2, 3, 4, 5, 6, 7, 8, 9, 10] (by rfl)⟩
          · clear h hF
            rintro a w ⟨x32, hF, h⟩
            unfold ref06_Signer_Again.j2 at hF
            show Code.wp Tryd.prog _ _ a w
            obtain ⟨s33, hs34, hF⟩ := bind_some hF
            rw [hs34] at h
            obtain ⟨h35, h⟩ := h.ex 10 rfl
            have hp := h.isp 10 rfl (fun Φ f w q => RSg_lp Φ f w q)
            replace h := h.slotc 3 rfl (V' := lpVP (b6 2) 0) (fun _ _ h => eq_lp h hp)
            replace h := h.sep (R := lb (b6 2) 31 [one (intVP .i64 s33.f_Index), one (slVP (dC 32) s33.f_Parts), one (slVP (dC 32) s33.f_Others), one (eqVP h35)]) (S := (acc h35 23 32 (dC 32) s33.f_Path)) 10 rfl
            replace h := h.sub [0, 1, 2, 3, 4, 5, 6, 7, 8, 9, 10, 11] (by rfl)
            change SatL c [.slot 1 (eqVP p_1), .slot 4 (lpVP (b1 0) 0), .slot 8 (lpVP (b1 2) 0), .slot 10 (lpVP (b6 2) 0), .slot 11 (intVP .i64 x15), .slot 12 (intVP .i64 x16), .slot 13 (intVP .i64 x32), .res (lb (b1 0) 36 [bytesCk 32 a_0.f_Seed, one (intVP .i64 a_0.f_Next), one (slVP (dC 32) a_0.f_Leaves)]), .res (lb (b1 2) 31 [one (intVP .i64 ((S_api_Sig.mk (0 : Int) [] [] []).f_Index)), one (slVP (dC 32) ((S_api_Sig.mk (0 : Int) [] [] []).f_Parts)), one (slVP (dC 32) ((S_api_Sig.mk (0 : Int) [] [] []).f_Others)), one (slVP (dC 32) ((S_api_Sig.mk (0 : Int) [] [] []).f_Path))]), .res (RLog_e p_1 x17), .res (lb (b6 2) 31 [one (intVP .i64 s33.f_Index), one (slVP (dC 32) s33.f_Parts), one (slVP (dC 32) s33.f_Others), one (eqVP h35)]), .res (acc h35 23 32 (dC 32) s33.f_Path)] a w at h
            obtain ⟨r36, hr36, hF⟩ := bind_some hF
            obtain ⟨hv37, hF⟩ := ite_some hF
            refine wp_seq ?_
            refine reg mixed hn hG h [0, 1, 2, 3, 4, 5, 7, 8, 500, 505, 502] (ov [3] (op_fieldAddr_lbm (p := (b6 2)) (n := 1) 0 3 Tryd.underlying31 rfl Tryd.sizeOf24 (by decide) q0 rfl) <| ov [500, 10] (op_load_lb1 [one (intVP .i64 s33.f_Index), one (slVP (dC 32) s33.f_Parts), one (slVP (dC 32) s33.f_Others)] [] 1 Tryd.isAgg24 q0 rfl rfl) <| ov [0] (op_move q0) <| ov [1] (op_fieldAddr_lbm (p := (b1 0)) (n := 1) 0 33 Tryd.underlying36 rfl Tryd.sizeOf24 (by decide) q0 rfl) <| ov [500, 7] (op_load_lb1 [bytesCk 32 a_0.f_Seed, one (intVP .i64 a_0.f_Next)] [] 1 Tryd.isAgg24 q0 rfl rfl) <| ov [5] (op_move q0) <| ov [6] (op_move q0) <| oc [504, 502, 501, 500] [9] Tryd.call56 (ref06_node_ok hr36) ⟨q0, q1, q2, q3, trivial⟩ <| ov [501] (op_lit (xs := [.tmp 63]) (ys := [r36.1]) _ rfl Tryd.underlying24 Tryd.sizeOf23 Tryd.zeroValue23 rfl rfl (by decide) (by decide) ⟨⟨_, q0, (cells_agg _)⟩, trivial⟩ (lens_dC 32)) <| og [508, 500] [11] [.slot 65 9 100000 (fun v1_ _ => (eqVP v1_)), .res 9 100000 (fun v1_ _ => (acc (v1_) 23 32 (dC 32) (s33.f_Path ++ [r36.1])))] (GOk.plain (op_append (i := Tryd.t23) Tryd.underlying24 Tryd.type23 rfl (lens_dC 32) (by decide) rfl q0 q1 hv37) rfl) <| ov [3] (op_fieldAddr_lbm (p := (b6 2)) (n := 1) 0 3 Tryd.underlying31 rfl Tryd.sizeOf24 (by decide) q0 rfl) <| og [500, 502, 501] [10] [.res 9 100000 (fun v1_ _ => (lb (b6 2) 31 [one (intVP .i64 s33.f_Index), one (slVP (dC 32) s33.f_Parts), one (slVP (dC 32) s33.f_Others), one (eqVP (v1_))]))] (fun {β} => (GOk.plain (op_store_lb [one (intVP .i64 s33.f_Index), one (slVP (dC 32) s33.f_Parts), one (slVP (dC 32) s33.f_Others)] [one (eqVP h35)] [] [one (eqVP ((β 9)))] Tryd.sizeOf24 q0 (opone 1 2 rfl rfl acc_one) (cells_h _) rfl rfl rfl) rfl)) .nil) fun b38 a w h => ?_
            replace h := h.unsep 8 10 rfl rfl (by decide)
            replace h := h.conv 8 rfl (R' := RSg_e (b6 2) (some ⟨s33.f_Index, s33.f_Parts, s33.f_Others, s33.f_Path ++ [r36.1]⟩)) (RSg_packo (v3 := (b38 9)) (o := (some ⟨s33.f_Index, s33.f_Parts, s33.f_Others, s33.f_Path ++ [r36.1]⟩)))
            replace h := h.slotc 3 rfl (fun _ _ h => lp_eqv h)
            replace h := h.sub [0, 1, 2, 3, 4, 5, 6, 7, 9, 8] (by rfl)
            change SatL c [.slot 1 (eqVP p_1), .slot 4 (lpVP (b1 0) 0), .slot 8 (lpVP (b1 2) 0), .slot 10 (eqVP (b6 2)), .slot 11 (intVP .i64 x15), .slot 12 (intVP .i64 x16), .res (lb (b1 0) 36 [bytesCk 32 a_0.f_Seed, one (intVP .i64 a_0.f_Next), one (slVP (dC 32) a_0.f_Leaves)]), .res (lb (b1 2) 31 [one (intVP .i64 ((S_api_Sig.mk (0 : Int) [] [] []).f_Index)), one (slVP (dC 32) ((S_api_Sig.mk (0 : Int) [] [] []).f_Parts)), one (slVP (dC 32) ((S_api_Sig.mk (0 : Int) [] [] []).f_Others)), one (slVP (dC 32) ((S_api_Sig.mk (0 : Int) [] [] []).f_Path))]), .res (RLog_e p_1 r36.2), .res (RSg_e (b6 2) (some ⟨s33.f_Index, s33.f_Parts, s33.f_Others, s33.f_Path ++ [r36.1]⟩))] a w at h
            show Code.wp Tryd.prog _ _ a w
            refine reg mixed hn hG h [0, 1, 2, 3, 500, 5, 6, 7, 8, 9] (ov [4] (op_move q0) <| ov [500] (op_bin (bin_quo (by decide)) q0 qi) <| od [500] 4 (op_assign q0) .nil) fun _ a w h => ?_
            show Code.wp Tryd.prog _ _ a w
            refine reg mixed hn hG h [0, 1, 2, 3, 4, 500, 6, 7, 8, 9] (ov [5] (op_move q0) <| ov [500] (op_bin bin_add q0 qi) <| od [500] 5 (op_assign q0) .nil) fun _ a w h => ?_
            obtain rfl := Option.some.inj hF
            exact ⟨rfl, h.sub [0, 1, 2, 3, 4, 5, 6, 7, 8, 9] (by rfl)⟩
        · refine wp_exit ?_
          obtain rfl := Option.some.inj hF
          exact ⟨exit_ne _, rfl, h.sub [2, 3, 7, 8, 9] (by rfl)⟩
      · clear hl41
        intro e a w hq
        cases cr40 with
        | ret r42 =>
          obtain ⟨rfl, hq⟩ := hq
          obtain rfl := Option.some.inj hF
          exact ⟨.inl rfl, hq⟩
        | next s43 =>
          obtain ⟨y44, y45, y46, y47⟩ := s43
          obtain ⟨rfl, h⟩ := hq
          change SatL c [.slot 8 (lpVP (b1 2) 0), .slot 10 (eqVP (b6 2)), .res (lb (b1 2) 31 [one (intVP .i64 ((S_api_Sig.mk (0 : Int) [] [] []).f_Index)), one (slVP (dC 32) ((S_api_Sig.mk (0 : Int) [] [] []).f_Parts)), one (slVP (dC 32) ((S_api_Sig.mk (0 : Int) [] [] []).f_Others)), one (slVP (dC 32) ((S_api_Sig.mk (0 : Int) [] [] []).f_Path))]), .res (RLog_e p_1 y46), .res (RSg_e (b6 2) y47)] a w at h
          refine inBlock_at ?_
          show Code.wp Tryd.prog _ _ a w
          obtain ⟨s48, hs49, hF⟩ := bind_some hF
          rw [hs49] at h
          obtain ⟨h50, h⟩ := h.ex 4 rfl
          have hp := h.isp 4 rfl (fun Φ f w q => RSg_lp Φ f w q)
          replace h := h.slotc 1 rfl (V' := lpVP (b6 2) 0) (fun _ _ h => eq_lp h hp)
          replace h := h.sep (R := lb (b6 2) 31 [one (intVP .i64 s48.f_Index), one (slVP (dC 32) s48.f_Parts), one (slVP (dC 32) s48.f_Others), one (eqVP h50)]) (S := (acc h50 23 32 (dC 32) s48.f_Path)) 4 rfl
          replace h := h.sub [0, 1, 2, 3, 4, 5] (by rfl)
          change SatL c [.slot 8 (lpVP (b1 2) 0), .slot 10 (lpVP (b6 2) 0), .res (lb (b1 2) 31 [one (intVP .i64 ((S_api_Sig.mk (0 : Int) [] [] []).f_Index)), one (slVP (dC 32) ((S_api_Sig.mk (0 : Int) [] [] []).f_Parts)), one (slVP (dC 32) ((S_api_Sig.mk (0 : Int) [] [] []).f_Others)), one (slVP (dC 32) ((S_api_Sig.mk (0 : Int) [] [] []).f_Path))]), .res (RLog_e p_1 y46), .res (lb (b6 2) 31 [one (intVP .i64 s48.f_Index), one (slVP (dC 32) s48.f_Parts), one (slVP (dC 32) s48.f_Others), one (eqVP h50)]), .res (acc h50 23 32 (dC 32) s48.f_Path)] a w at h
          replace h := h.unsep 4 5 rfl rfl (by decide)
          replace h := h.conv 4 rfl (settle (pre := [one (intVP .i64 s48.f_Index), one (slVP (dC 32) s48.f_Parts), one (slVP (dC 32) s48.f_Others)]) (post := []))
          replace h := h.sep 4 rfl
          replace h := h.sub [0, 1, 2, 3, 4] (by rfl)
          change SatL c [.slot 8 (lpVP (b1 2) 0), .slot 10 (lpVP (b6 2) 0), .res (lb (b1 2) 31 [one (intVP .i64 ((S_api_Sig.mk (0 : Int) [] [] []).f_Index)), one (slVP (dC 32) ((S_api_Sig.mk (0 : Int) [] [] []).f_Parts)), one (slVP (dC 32) ((S_api_Sig.mk (0 : Int) [] [] []).f_Others)), one (slVP (dC 32) ((S_api_Sig.mk (0 : Int) [] [] []).f_Path))]), .res (RLog_e p_1 y46), .res (lb (b6 2) 31 [one (intVP .i64 s48.f_Index), one (slVP (dC 32) s48.f_Parts), one (slVP (dC 32) s48.f_Others), one (slVP (dC 32) s48.f_Path)])] a w at h
          refine regS mixed hn hG h [0, 500, 501, 3] (ov [1, 4] (op_load_w 1 Tryd.isAgg31 Tryd.sizeOf31 q0) <| ou [0, 500] 2 (op_store_w Tryd.sizeOf31 q0 q1 (cells_agg _)) <| ov [] (op_assign qi) .nil) fun _ a w h => ?_
          refine wp_ret ?_
          obtain rfl := Option.some.inj hF
          exact ⟨.inl rfl, retn h (rs := [.cell 8 31, .tmp 9]) (Vs := [(aggVP [one (intVP .i64 s48.f_Index), one (slVP (dC 32) s48.f_Parts), one (slVP (dC 32) s48.f_Others), one (slVP (dC 32) s48.f_Path)]), (intVP .i64 0)]) Tryd.results85 (by decide) ⟨(r_cell 0 2 rfl rfl Tryd.isAgg31 Tryd.sizeOf31 rfl), (r_tmp 1 rfl), trivial⟩ [3] [(RLog_e p_1 y46)] rfl rfl rfl⟩

def ref06_Signer_Sign.j1 (a_0 : S_ref06_Signer) (L_1 : Option O_RLog) (a_2 : List UInt8) (x5 : Bool) : Option (S_ref06_Signer × S_api_Sig × Int × (Option O_RLog)) := (if x5 = true then some (a_0, (S_api_Sig.mk (0 : Int) [] [] []), 22, L_1) else ((ref06_Signer_Again a_0 L_1 a_0.f_Next a_2).bind fun r7 => (if (!decide (r7.2.1 = (0 : Int))) = true then some (a_0, (S_api_Sig.mk (0 : Int) [] [] []), r7.2.1, r7.2.2) else some ((S_ref06_Signer.mk a_0.f_Seed (IntKind.wrap .i64 (a_0.f_Next + 1)) a_0.f_Leaves), r7.1, 0, r7.2.2))))
def ref06_Signer_Sign (a_0 : S_ref06_Signer) (L_1 : Option O_RLog) (a_2 : List UInt8) : Option (S_ref06_Signer × S_api_Sig × Int × (Option O_RLog)) := (if (decide (a_0.f_Next < (0 : Int))) = true then ref06_Signer_Sign.j1 a_0 L_1 a_2 true else ref06_Signer_Sign.j1 a_0 L_1 a_2 (decide ((15 : Int) < a_0.f_Next)))
theorem ref06_Signer_Sign_ok {p_1 : Value} {a_0 : S_ref06_Signer} {L_1 : Option O_RLog} {a_2 : List UInt8} {r : S_ref06_Signer × S_api_Sig × Int × (Option O_RLog)} (hF : ref06_Signer_Sign a_0 L_1 a_2 = some r) : CallOk Tryd.prog KG 67 [(aggVP [bytesCk 32 a_0.f_Seed, one (intVP .i64 a_0.f_Next), one (slVP (dC 32) a_0.f_Leaves)]), (eqVP p_1), (aggVP [bytesCk 32 a_2])] [(RLog_e p_1 L_1)] (fun _ => [RLog_e p_1 r.2.2.2]) (tupVP [(aggVP [bytesCk 32 r.1.f_Seed, one (intVP .i64 r.1.f_Next), one (slVP (dC 32) r.1.f_Leaves)]), (aggVP [one (intVP .i64 r.2.1.f_Index), one (slVP (dC 32) r.2.1.f_Parts), one (slVP (dC 32) r.2.1.f_Others), one (slVP (dC 32) r.2.1.f_Path)]), (intVP .i64 r.2.2.1)]) := by
  refine CallOk.intro 41 Tryd.func67 rfl Tryd.ntmps67 (Nat.le_of_ble_eq_true rfl) ?_
  intro c a w hG hn h
  unfold ref06_Signer_Sign at hF
  change SatL c [.slot 0 (aggVP [bytesCk 32 a_0.f_Seed, one (intVP .i64 a_0.f_Next), one (slVP (dC 32) a_0.f_Leaves)]), .slot 1 (eqVP p_1), .slot 2 (aggVP [bytesCk 32 a_2]), .res (RLog_e p_1 L_1)] a w at h
  refine regS mixed hn hG h [1, 508, 506, 504, 502, 3, 507, 505, 503, 501] (ob [0] (op_box q0 (cells_agg _)) <| ob [2] (op_box q0 (cells_agg _)) <| ob [] (op_alloc Tryd.zeroValue36 z36) <| ob [] (op_alloc Tryd.zeroValue31 z31) <| ov [] (op_assign qi) .nil) fun b1 a w h => ?_
  refine wp_seq ?_
  refine wp_seq ?_
  refine wp_cut (fun a w => ∃ (x5 : Bool), ref06_Signer_Sign.j1 a_0 L_1 a_2 x5 = some r ∧ SatL c [.slot 1 (eqVP p_1), .slot 3 (lpVP (b1 0) 0), .slot 5 (lpVP (b1 1) 0), .slot 6 (lpVP (b1 2) 0), .slot 7 (lpVP (b1 3) 0), .slot 18 (boolVP x5), .res (RLog_e p_1 L_1), .res (lb (b1 0) 36 [bytesCk 32 a_0.f_Seed, one (intVP .i64 a_0.f_Next), one (slVP (dC 32) a_0.f_Leaves)]), .res (lb (b1 1) 23 [bytesCk 32 a_2]), .res (lb (b1 2) 36 [bytesCk 32 ((S_ref06_Signer.mk (List.replicate 32 0) (0 : Int) []).f_Seed), one (intVP .i64 ((S_ref06_Signer.mk (List.replicate 32 0) (0 : Int) []).f_Next)), one (slVP (dC 32) ((S_ref06_Signer.mk (List.replicate 32 0) (0 : Int) []).f_Leaves))]), .res (lb (b1 3) 31 [one (intVP .i64 ((S_api_Sig.mk (0 : Int) [] [] []).f_Index)), one (slVP (dC 32) ((S_api_Sig.mk (0 : Int) [] [] []).f_Parts)), one (slVP (dC 32) ((S_api_Sig.mk (0 : Int) [] [] []).f_Others)), one (slVP (dC 32) ((S_api_Sig.mk (0 : Int) [] [] []).f_Path))])] a w) ?_ ?_
  · rcases Bool.eq_false_or_eq_true (decide (a_0.f_Next < (0 : Int))) with hb10 | hb10
    · replace hF := tt_of hb10 hF
      refine reg mixed hn hG h [0, 1, 2, 3, 4, 500, 5, 6, 7, 8, 9] (ov [1] (op_fieldAddr_lbm (p := (b1 0)) (n := 1) 0 32 Tryd.underlying36 rfl Tryd.sizeOf3 (by decide) q0 rfl) <| ov [500, 6] (op_load_lb1 [bytesCk 32 a_0.f_Seed] [one (slVP (dC 32) a_0.f_Leaves)] 1 Tryd.isAgg3 q0 rfl rfl) <| ov [500] (op_bin bin_lss q0 qi) <| ov [500] (op_move q0) <| oe [500] [] (GOk.off_v (want := false) hb10 rfl rfl rfl rfl) <| oe [501] [] (GOk.off_v (want := false) hb10 rfl rfl rfl rfl) <| oe [502] [] (GOk.off_v (want := false) hb10 rfl rfl rfl rfl) <| ov [503] (op_pick_t hb10 q0 qb) .nil) fun _ a w h => ?_
      exact ⟨true, hF, h.sub [0, 1, 2, 3, 4, 5, 6, 7, 8, 9, 10] (by rfl)⟩
    · replace hF := ff_of hb10 hF
      refine reg mixed hn hG h [0, 1, 2, 3, 4, 500, 5, 6, 7, 8, 9] (ov [1] (op_fieldAddr_lbm (p := (b1 0)) (n := 1) 0 32 Tryd.underlying36 rfl Tryd.sizeOf3 (by decide) q0 rfl) <| ov [500, 6] (op_load_lb1 [bytesCk 32 a_0.f_Seed] [one (slVP (dC 32) a_0.f_Leaves)] 1 Tryd.isAgg3 q0 rfl rfl) <| ov [500] (op_bin bin_lss q0 qi) <| ov [500] (op_move q0) <| oe [500, 1] [] (GOk.on_eq hb10 rfl rfl rfl (op_fieldAddr_lbm (p := (b1 0)) (n := 1) 0 32 Tryd.underlying36 rfl Tryd.sizeOf3 (by decide) q0 rfl)) <| oe [501, 500, 6] [] (GOk.on_eq hb10 rfl rfl rfl (op_load_lb1 [bytesCk 32 a_0.f_Seed] [one (slVP (dC 32) a_0.f_Leaves)] 1 Tryd.isAgg3 q0 rfl rfl)) <| oe [502, 500] [] (GOk.on_eq hb10 rfl rfl rfl (op_bin bin_gtr q0 qi)) <| ov [503, 500] (op_pick_f hb10 q0 q1) .nil) fun _ a w h => ?_
      exact ⟨decide ((15 : Int) < a_0.f_Next), hF, h.sub [0, 1, 2, 3, 4, 5, 6, 7, 8, 9, 10] (by rfl)⟩
  · clear h hF
    rintro a w ⟨x5, hF, h⟩
    unfold ref06_Signer_Sign.j1 at hF
    show Code.wp Tryd.prog _ _ a w
    refine cnd h hF 5 [1, 3, 4, 6, 7, 9, 10] [0, 1, 2, 3, 4, 6, 7, 8, 9, 10] (fun hb6 hF h => ?_) (fun hb6 hF h => ?_)
    · refine regS mixed hn hG h [1, 2, 500, 3, 502, 501] (ov [0, 4] (op_load_w 1 Tryd.isAgg36 Tryd.sizeOf36 q0) <| ov [] (op_build [] rfl bu31 z31 rfl) <| ou [1, 501] 5 (op_store_w Tryd.sizeOf36 q0 q1 (cells_agg _)) <| ou [2, 501] 6 (op_store_w Tryd.sizeOf31 q0 q1 (cells_agg _)) <| ov [] (op_assign qi) .nil) fun _ a w h => ?_
      refine wp_ret ?_
      obtain rfl := Option.some.inj hF
      exact ⟨.inl rfl, retn h (rs := [.cell 6 36, .cell 7 31, .tmp 8]) (Vs := [(aggVP [bytesCk 32 a_0.f_Seed, one (intVP .i64 a_0.f_Next), one (slVP (dC 32) a_0.f_Leaves)]), (aggVP [one (intVP .i64 (0 : Int)), one (slVP (dC 32) []), one (slVP (dC 32) []), one (slVP (dC 32) [])]), (intVP .i64 22)]) Tryd.results67 (by decide) ⟨(r_cell 0 4 rfl rfl Tryd.isAgg36 Tryd.sizeOf36 rfl), (r_cell 1 5 rfl rfl Tryd.isAgg31 Tryd.sizeOf31 rfl), (r_tmp 2 rfl), trivial⟩ [3] [(RLog_e p_1 L_1)] rfl rfl rfl⟩
    · refine wp_skip ?_
      show Code.wp Tryd.prog _ _ a w
      obtain ⟨r7, hr7, hF⟩ := bind_some hF
      refine regS mixed hn hG h [1, 3, 4, 503, 500, 6, 8, 9, 507, 501] (ov [1, 6] (op_load_w 1 Tryd.isAgg36 Tryd.sizeOf36 q0) <| ov [0] (op_move q0) <| ov [1] (op_fieldAddr_lbm (p := (b1 0)) (n := 1) 0 32 Tryd.underlying36 rfl Tryd.sizeOf3 (by decide) q0 rfl) <| ov [500, 6] (op_load_lb1 [bytesCk 32 a_0.f_Seed] [one (slVP (dC 32) a_0.f_Leaves)] 1 Tryd.isAgg3 q0 rfl rfl) <| ov [2, 7] (op_load_w 1 Tryd.isAgg23 Tryd.sizeOf23 q0) <| oc [504, 503, 501, 500] [5] Tryd.call85 (ref06_Signer_Again_ok hr7) ⟨q0, q1, q2, q3, trivial⟩ <| ov [501] (op_move q0) <| ov [500] (op_extract q0 rfl) <| ov [501] (op_extract q0 rfl) <| ob [] (op_alloc Tryd.zeroValue31 z31) <| og [501, 503] [500] [.res 9 100000 (fun v1_ _ => (lb (v1_) 31 [one (intVP .i64 r7.1.f_Index), one (slVP (dC 32) r7.1.f_Parts), one (slVP (dC 32) r7.1.f_Others), one (slVP (dC 32) r7.1.f_Path)]))] (GOk.plain (op_store_w Tryd.sizeOf31 q0 q1 (cells_agg _)) rfl) <| ov [503] (op_assign q0) .nil) fun b8 a w h => ?_
      refine wp_seq ?_
      refine regS mixed hn hG h [0, 1, 2, 3, 4, 500, 5, 6, 7, 8, 9] (ov [4] (op_move q0) <| ov [500] (op_bin bin_neq q0 qi) .nil) fun _ a w h => ?_
      refine cnd h hF 5 [0, 1, 2, 4, 6, 7, 8, 9] [0, 1, 2, 3, 6, 7, 8, 9, 10] (fun hb9 hF h => ?_) (fun hb9 hF h => ?_)
      · refine regS mixed hn hG h [1, 2, 500, 502, 501, 7] (ov [0, 4] (op_load_w 1 Tryd.isAgg36 Tryd.sizeOf36 q0) <| ov [] (op_build [] rfl bu31 z31 rfl) <| ov [3] (op_move q0) <| ou [1, 502] 5 (op_store_w Tryd.sizeOf36 q0 q1 (cells_agg _)) <| ou [2, 502] 6 (op_store_w Tryd.sizeOf31 q0 q1 (cells_agg _)) <| ov [502] (op_assign q0) .nil) fun _ a w h => ?_
        refine wp_ret ?_
        obtain rfl := Option.some.inj hF
        exact ⟨.inl rfl, retn h (rs := [.cell 6 36, .cell 7 31, .tmp 8]) (Vs := [(aggVP [bytesCk 32 a_0.f_Seed, one (intVP .i64 a_0.f_Next), one (slVP (dC 32) a_0.f_Leaves)]), (aggVP [one (intVP .i64 (0 : Int)), one (slVP (dC 32) []), one (slVP (dC 32) []), one (slVP (dC 32) [])]), (intVP .i64 r7.2.1)]) Tryd.results67 (by decide) ⟨(r_cell 0 3 rfl rfl Tryd.isAgg36 Tryd.sizeOf36 rfl), (r_cell 1 4 rfl rfl Tryd.isAgg31 Tryd.sizeOf31 rfl), (r_tmp 2 rfl), trivial⟩ [5] [(RLog_e p_1 r7.2.2)] rfl rfl rfl⟩
      · refine wp_skip ?_
        show Code.wp Tryd.prog _ _ a w
        refine regS mixed hn hG h [0, 1, 2, 3, 500, 5, 6, 7, 8] (ov [0] (op_fieldAddr_lbm (p := (b1 0)) (n := 1) 0 32 Tryd.underlying36 rfl Tryd.sizeOf3 (by decide) q0 rfl) <| ov [500, 4] (op_load_lb1 [bytesCk 32 a_0.f_Seed] [one (slVP (dC 32) a_0.f_Leaves)] 1 Tryd.isAgg3 q0 rfl rfl) <| ov [500] (op_bin bin_add q0 qi) <| ov [0] (op_fieldAddr_lbm (p := (b1 0)) (n := 1) 0 32 Tryd.underlying36 rfl Tryd.sizeOf3 (by decide) q0 rfl) <| ou [500, 501] 4 (op_store_lb [bytesCk 32 a_0.f_Seed] [one (intVP .i64 a_0.f_Next)] [one (slVP (dC 32) a_0.f_Leaves)] [one (intVP .i64 (IntKind.wrap .i64 (a_0.f_Next + 1)))] Tryd.sizeOf3 q0 q1 (cells_one (one_int _ _)) rfl rfl rfl) .nil) fun _ a w h => ?_
        refine regS mixed hn hG h [1, 2, 500, 502, 501, 7] (ov [0, 4] (op_load_w 1 Tryd.isAgg36 Tryd.sizeOf36 q0) <| ov [3, 8] (op_load_w 1 Tryd.isAgg31 Tryd.sizeOf31 q0) <| ou [1, 501] 5 (op_store_w Tryd.sizeOf36 q0 q1 (cells_agg _)) <| ou [2, 501] 6 (op_store_w Tryd.sizeOf31 q0 q1 (cells_agg _)) <| ov [] (op_assign qi) .nil) fun _ a w h => ?_
        refine wp_ret ?_
        obtain rfl := Option.some.inj hF
        exact ⟨.inl rfl, retn h (rs := [.cell 6 36, .cell 7 31, .tmp 8]) (Vs := [(aggVP [bytesCk 32 a_0.f_Seed, one (intVP .i64 (IntKind.wrap .i64 (a_0.f_Next + 1))), one (slVP (dC 32) a_0.f_Leaves)]), (aggVP [one (intVP .i64 r7.1.f_Index), one (slVP (dC 32) r7.1.f_Parts), one (slVP (dC 32) r7.1.f_Others), one (slVP (dC 32) r7.1.f_Path)]), (intVP .i64 0)]) Tryd.results67 (by decide) ⟨(r_cell 0 3 rfl rfl Tryd.isAgg36 Tryd.sizeOf36 rfl), (r_cell 1 4 rfl rfl Tryd.isAgg31 Tryd.sizeOf31 rfl), (r_tmp 2 rfl), trivial⟩ [5] [(RLog_e p_1 r7.2.2)] rfl rfl rfl⟩

def ref10_Sign (L_0 : Option O_RLog) (a_1 : S_ref06_Signer) (a_2 : Int) (a_3 : List UInt8) (a_4 : List UInt8) : Option (S_ref06_Signer × S_api_Update × Int × (Option O_RLog)) := ((ref10_Claim L_0 a_2 a_3 a_4).bind fun r6 => ((ref06_Signer_Sign a_1 r6.2 r6.1).bind fun r7 => (if (!decide (r7.2.2.1 = (0 : Int))) = true then some (a_1, (S_api_Update.mk (0 : Int) (List.replicate 32 0) (List.replicate 32 0) (S_api_Sig.mk (0 : Int) [] [] [])), r7.2.2.1, r7.2.2.2) else some (r7.1, (S_api_Update.mk a_2 a_3 a_4 r7.2.1), 0, r7.2.2.2))))
theorem ref10_Sign_ok {p_0 : Value} {L_0 : Option O_RLog} {a_1 : S_ref06_Signer} {a_2 : Int} {a_3 : List UInt8} {a_4 : List UInt8} {r : S_ref06_Signer × S_api_Update × Int × (Option O_RLog)} (hF : ref10_Sign L_0 a_1 a_2 a_3 a_4 = some r) : CallOk Tryd.prog KG 42 [(eqVP p_0), (aggVP [bytesCk 32 a_1.f_Seed, one (intVP .i64 a_1.f_Next), one (slVP (dC 32) a_1.f_Leaves)]), (intVP .u32 a_2), (aggVP [bytesCk 32 a_3]), (aggVP [bytesCk 32 a_4])] [(RLog_e p_0 L_0)] (fun _ => [RLog_e p_0 r.2.2.2]) (tupVP [(aggVP [bytesCk 32 r.1.f_Seed, one (intVP .i64 r.1.f_Next), one (slVP (dC 32) r.1.f_Leaves)]), (aggVP [one (intVP .u32 r.2.1.f_Home), bytesCk 32 r.2.1.f_Old, bytesCk 32 r.2.1.f_New, one (intVP .i64 r.2.1.f_Sig.f_Index), one (slVP (dC 32) r.2.1.f_Sig.f_Parts), one (slVP (dC 32) r.2.1.f_Sig.f_Others), one (slVP (dC 32) r.2.1.f_Sig.f_Path)]), (intVP .i64 r.2.2.1)]) := by
  refine CallOk.intro 39 Tryd.func42 rfl Tryd.ntmps42 (Nat.le_of_ble_eq_true rfl) ?_
  intro c a w hG hn h
  unfold ref10_Sign at hF
  change SatL c [.slot 0 (eqVP p_0), .slot 1 (aggVP [bytesCk 32 a_1.f_Seed, one (intVP .i64 a_1.f_Next), one (slVP (dC 32) a_1.f_Leaves)]), .slot 2 (intVP .u32 a_2), .slot 3 (aggVP [bytesCk 32 a_3]), .slot 4 (aggVP [bytesCk 32 a_4]), .res (RLog_e p_0 L_0)] a w at h
  refine regS mixed hn hG h [0, 2, 510, 508, 506, 504, 502, 5, 509, 507, 505, 503, 501] (ob [1] (op_box q0 (cells_agg _)) <| ob [3] (op_box q0 (cells_agg _)) <| ob [4] (op_box q0 (cells_agg _)) <| ob [] (op_alloc Tryd.zeroValue36 z36) <| ob [] (op_alloc Tryd.zeroValue53 z53) <| ov [] (op_assign qi) .nil) fun b1 a w h => ?_
  obtain ⟨r6, hr6, hF⟩ := bind_some hF
  obtain ⟨r7, hr7, hF⟩ := bind_some hF
  refine regS mixed hn hG h [1, 2, 3, 4, 5, 6, 506, 504, 500, 8, 9, 10, 11, 12, 511, 502, 501] (ov [2, 8] (op_load_w 1 Tryd.isAgg36 Tryd.sizeOf36 q0) <| ov [0] (op_move q0) <| ov [0] (op_move q0) <| ov [1] (op_move q0) <| ov [3, 9] (op_load_w 1 Tryd.isAgg23 Tryd.sizeOf23 q0) <| ov [4, 10] (op_load_w 1 Tryd.isAgg23 Tryd.sizeOf23 q0) <| oc [503, 502, 501, 500] [7] Tryd.call28 (ref10_Claim_ok hr6) ⟨q0, q1, q2, q3, trivial⟩ <| oc [507, 506, 501] [500] Tryd.call67 (ref06_Signer_Sign_ok hr7) ⟨q0, q1, q2, trivial⟩ <| ov [501] (op_move q0) <| ov [500] (op_extract q0 rfl) <| ov [501] (op_extract q0 rfl) <| ov [502] (op_extract q0 rfl) <| ob [] (op_alloc Tryd.zeroValue36 z36) <| ob [] (op_alloc Tryd.zeroValue31 z31) <| og [503, 506] [502] [.res 12 100000 (fun v1_ _ => (lb (v1_) 36 [bytesCk 32 r7.1.f_Seed, one (intVP .i64 r7.1.f_Next), one (slVP (dC 32) r7.1.f_Leaves)]))] (GOk.plain (op_store_w Tryd.sizeOf36 q0 q1 (cells_agg _)) rfl) <| og [502, 506] [501] [.res 13 100000 (fun v1_ _ => (lb (v1_) 31 [one (intVP .i64 r7.2.1.f_Index), one (slVP (dC 32) r7.2.1.f_Parts), one (slVP (dC 32) r7.2.1.f_Others), one (slVP (dC 32) r7.2.1.f_Path)]))] (GOk.plain (op_store_w Tryd.sizeOf31 q0 q1 (cells_agg _)) rfl) <| ov [506] (op_assign q0) .nil) fun b8 a w h => ?_
  refine wp_seq ?_
  refine regS mixed hn hG h [0, 1, 2, 3, 4, 5, 6, 7, 8, 500, 9, 10, 11, 12, 13, 14, 15, 16] (ov [8] (op_move q0) <| ov [500] (op_bin bin_neq q0 qi) .nil) fun _ a w h => ?_
  refine cnd h hF 9 [1, 4, 5, 8, 10, 13, 14, 15] [0, 2, 3, 4, 5, 6, 7, 11, 12, 13, 14, 15, 16, 17] (fun hb10 hF h => ?_) (fun hb10 hF h => ?_)
  · refine regS mixed hn hG h [1, 2, 500, 502, 501, 7] (ov [0, 4] (op_load_w 1 Tryd.isAgg36 Tryd.sizeOf36 q0) <| ov [] (op_build [] rfl bu53 z53 rfl) <| ov [3] (op_move q0) <| ou [1, 502] 5 (op_store_w Tryd.sizeOf36 q0 q1 (cells_agg _)) <| ou [2, 502] 6 (op_store_w Tryd.sizeOf53 q0 q1 (cells_agg _)) <| ov [502] (op_assign q0) .nil) fun _ a w h => ?_
    refine wp_ret ?_
    obtain rfl := Option.some.inj hF
    exact ⟨.inl rfl, retn h (rs := [.cell 10 36, .cell 11 53, .tmp 12]) (Vs := [(aggVP [bytesCk 32 a_1.f_Seed, one (intVP .i64 a_1.f_Next), one (slVP (dC 32) a_1.f_Leaves)]), (aggVP [one (intVP .u32 (0 : Int)), bytesCk 32 (List.replicate 32 0), bytesCk 32 (List.replicate 32 0), one (intVP .i64 ((S_api_Sig.mk (0 : Int) [] [] []).f_Index)), one (slVP (dC 32) ((S_api_Sig.mk (0 : Int) [] [] []).f_Parts)), one (slVP (dC 32) ((S_api_Sig.mk (0 : Int) [] [] []).f_Others)), one (slVP (dC 32) ((S_api_Sig.mk (0 : Int) [] [] []).f_Path))]), (intVP .i64 r7.2.2.1)]) Tryd.results42 (by decide) ⟨(r_cell 0 3 rfl rfl Tryd.isAgg36 Tryd.sizeOf36 rfl), (r_cell 1 4 rfl rfl Tryd.isAgg53 Tryd.sizeOf53 rfl), (r_tmp 2 rfl), trivial⟩ [5] [(RLog_e p_0 r7.2.2.2)] rfl rfl rfl⟩
  · refine wp_skip ?_
    show Code.wp Tryd.prog _ _ a w
    refine regS mixed hn hG h [3, 4, 500, 502, 501, 11] (ov [5, 12] (op_load_w 1 Tryd.isAgg36 Tryd.sizeOf36 q0) <| ov [0] (op_move q0) <| ov [1, 7] (op_load_w 1 Tryd.isAgg23 Tryd.sizeOf23 q0) <| ov [2, 8] (op_load_w 1 Tryd.isAgg23 Tryd.sizeOf23 q0) <| ov [6, 13] (op_load_w 1 Tryd.isAgg31 Tryd.sizeOf31 q0) <| ov [503, 502, 501, 500] (op_build [(0, .tmp 34), (1, .tmp 35), (2, .tmp 36), (3, .tmp 37)] rfl bu53 z53 ⟨[], [one (intVP .u32 (0 : Int))], [bytesCk 32 (List.replicate 32 0), bytesCk 32 (List.replicate 32 0), one (intVP .i64 ((S_api_Sig.mk (0 : Int) [] [] []).f_Index)), one (slVP (dC 32) ((S_api_Sig.mk (0 : Int) [] [] []).f_Parts)), one (slVP (dC 32) ((S_api_Sig.mk (0 : Int) [] [] []).f_Others)), one (slVP (dC 32) ((S_api_Sig.mk (0 : Int) [] [] []).f_Path))], [one (intVP .u32 a_2)], _, rfl, rfl, rfl, q0, (cells_one (one_int _ _)), ⟨[one (intVP .u32 a_2)], [bytesCk 32 (List.replicate 32 0)], [bytesCk 32 (List.replicate 32 0), one (intVP .i64 ((S_api_Sig.mk (0 : Int) [] [] []).f_Index)), one (slVP (dC 32) ((S_api_Sig.mk (0 : Int) [] [] []).f_Parts)), one (slVP (dC 32) ((S_api_Sig.mk (0 : Int) [] [] []).f_Others)), one (slVP (dC 32) ((S_api_Sig.mk (0 : Int) [] [] []).f_Path))], [bytesCk 32 a_3], _, rfl, rfl, rfl, q1, (cells_agg _), ⟨[one (intVP .u32 a_2), bytesCk 32 a_3], [bytesCk 32 (List.replicate 32 0)], [one (intVP .i64 ((S_api_Sig.mk (0 : Int) [] [] []).f_Index)), one (slVP (dC 32) ((S_api_Sig.mk (0 : Int) [] [] []).f_Parts)), one (slVP (dC 32) ((S_api_Sig.mk (0 : Int) [] [] []).f_Others)), one (slVP (dC 32) ((S_api_Sig.mk (0 : Int) [] [] []).f_Path))], [bytesCk 32 a_4], _, rfl, rfl, rfl, q2, (cells_agg _), ⟨[one (intVP .u32 a_2), bytesCk 32 a_3, bytesCk 32 a_4], [one (intVP .i64 ((S_api_Sig.mk (0 : Int) [] [] []).f_Index)), one (slVP (dC 32) ((S_api_Sig.mk (0 : Int) [] [] []).f_Parts)), one (slVP (dC 32) ((S_api_Sig.mk (0 : Int) [] [] []).f_Others)), one (slVP (dC 32) ((S_api_Sig.mk (0 : Int) [] [] []).f_Path))], [], [one (intVP .i64 r7.2.1.f_Index), one (slVP (dC 32) r7.2.1.f_Parts), one (slVP (dC 32) r7.2.1.f_Others), one (slVP (dC 32) r7.2.1.f_Path)], _, rfl, rfl, rfl, q3, (cells_agg _), rfl⟩⟩⟩⟩) <| ou [3, 505] 9 (op_store_w Tryd.sizeOf36 q0 q1 (cells_agg _)) <| ou [4, 501] 10 (op_store_w Tryd.sizeOf53 q0 q1 (cells_agg _)) <| ov [] (op_assign qi) .nil) fun _ a w h => ?_
    refine wp_ret ?_
    obtain rfl := Option.some.inj hF
    exact ⟨.inl rfl, retn h (rs := [.cell 10 36, .cell 11 53, .tmp 12]) (Vs := [(aggVP [bytesCk 32 r7.1.f_Seed, one (intVP .i64 r7.1.f_Next), one (slVP (dC 32) r7.1.f_Leaves)]), (aggVP [one (intVP .u32 a_2), bytesCk 32 a_3, bytesCk 32 a_4, one (intVP .i64 r7.2.1.f_Index), one (slVP (dC 32) r7.2.1.f_Parts), one (slVP (dC 32) r7.2.1.f_Others), one (slVP (dC 32) r7.2.1.f_Path)]), (intVP .i64 0)]) Tryd.results42 (by decide) ⟨(r_cell 0 3 rfl rfl Tryd.isAgg36 Tryd.sizeOf36 rfl), (r_cell 1 4 rfl rfl Tryd.isAgg53 Tryd.sizeOf53 rfl), (r_tmp 2 rfl), trivial⟩ [5] [(RLog_e p_0 r7.2.2.2)] rfl rfl rfl⟩

def update_Halt (L_0 : Option O_Log) (a_1 : Int) (a_2 : List UInt8) (a_3 : Int) : Option ((List UInt8) × (Option O_Log)) := ((wire_Word a_1).bind fun r3 => ((wire_Digest a_2).bind fun r4 => ((wire_Word (IntKind.wrap .u32 a_3)).bind fun r5 => ((digest_Log_Of L_0 9 [r3, r4, r5]).bind fun r6 => some (r6.1, r6.2)))))
theorem update_Halt_ok {p_0 : Value} {L_0 : Option O_Log} {a_1 : Int} {a_2 : List UInt8} {a_3 : Int} {r : (List UInt8) × (Option O_Log)} (hF : update_Halt L_0 a_1 a_2 a_3 = some r) : CallOk Tryd.prog KG 31 [(eqVP p_0), (intVP .u32 a_1), (aggVP [bytesCk 32 a_2]), (intVP .i64 a_3)] [(Log_e p_0 L_0)] (fun _ => [Log_e p_0 r.2]) (aggVP [bytesCk 32 r.1]) := by
  refine CallOk.intro 19 Tryd.func31 rfl Tryd.ntmps31 (Nat.le_of_ble_eq_true rfl) ?_
  intro c a w hG hn h
  unfold update_Halt at hF
  change SatL c [.slot 0 (eqVP p_0), .slot 1 (intVP .u32 a_1), .slot 2 (aggVP [bytesCk 32 a_2]), .slot 3 (intVP .i64 a_3), .res (Log_e p_0 L_0)] a w at h
  refine regS mixed hn hG h [0, 1, 3, 503, 501, 4, 502, 500] (ob [2] (op_box q0 (cells_agg _)) <| ob [] (op_alloc Tryd.zeroValue23 z23) .nil) fun b1 a w h => ?_
  obtain ⟨r3, hr3, hF⟩ := bind_some hF
  obtain ⟨r4, hr4, hF⟩ := bind_some hF
  obtain ⟨r5, hr5, hF⟩ := bind_some hF
  obtain ⟨r6, hr6, hF⟩ := bind_some hF
  refine regS mixed hn hG h [4, 500, 501] (ov [0] (op_move q0) <| ov [1] (op_move q0) <| oc [500] [] Tryd.call63 (wire_Word_ok hr3) ⟨q0, trivial⟩ <| ov [3, 6] (op_load_w 1 Tryd.isAgg23 Tryd.sizeOf23 q0) <| oc [500] [] Tryd.call64 (wire_Digest_ok hr4) ⟨q0, trivial⟩ <| ov [2] (op_move q0) <| ov [500] (op_convert_int Tryd.underlying3 Tryd.underlying51 q0) <| oc [500] [] Tryd.call63 (wire_Word_ok hr5) ⟨q0, trivial⟩ <| ov [505, 503, 500] (op_lit (xs := [.tmp 11, .tmp 13, .tmp 16]) (ys := [r3, r4, r5]) _ rfl Tryd.underlying101 Tryd.sizeOf9 Tryd.zeroValue9 rfl rfl (by decide) (by decide) ⟨⟨_, q0, (cells_one (one_str _))⟩, ⟨_, q1, (cells_one (one_str _))⟩, ⟨_, q2, (cells_one (one_str _))⟩, trivial⟩ lens_strC) <| oc [508, 500] [5] Tryd.call62 (digest_Log_Of_ok hr6) ⟨q0, qi, q1, trivial⟩ <| ou [4, 501] 7 (op_store_w Tryd.sizeOf23 q0 q1 (cells_agg _)) .nil) fun _ a w h => ?_
  refine wp_ret ?_
  obtain rfl := Option.some.inj hF
  exact ⟨.inl rfl, ret1 h Tryd.results31 (r_cell 0 1 rfl rfl Tryd.isAgg23 Tryd.sizeOf23 rfl) [2] [(Log_e p_0 r6.2)] rfl rfl rfl⟩

def update_Stop (L_0 : Option O_Log) (a_1 : S_keys_Signer) (a_2 : Int) (a_3 : List UInt8) (a_4 : Int) : Option (S_keys_Signer × S_api_Stop × Int × (Option O_Log)) := ((update_Halt L_0 a_2 a_3 a_4).bind fun r5 => ((keys_Signer_Sign a_1 r5.2 r5.1).bind fun r6 => (if (!decide (r6.2.2.1 = (0 : Int))) = true then some (a_1, (S_api_Stop.mk (0 : Int) (List.replicate 32 0) (0 : Int) (S_api_Sig.mk (0 : Int) [] [] [])), r6.2.2.1, r6.2.2.2) else some (r6.1, (S_api_Stop.mk a_2 a_3 a_4 r6.2.1), 0, r6.2.2.2))))
theorem update_Stop_ok {p_0 : Value} {L_0 : Option O_Log} {a_1 : S_keys_Signer} {a_2 : Int} {a_3 : List UInt8} {a_4 : Int} {r : S_keys_Signer × S_api_Stop × Int × (Option O_Log)} (hF : update_Stop L_0 a_1 a_2 a_3 a_4 = some r) : CallOk Tryd.prog KG 43 [(eqVP p_0), (aggVP [bytesCk 32 a_1.f_Seed, one (intVP .i64 a_1.f_Next), one (slVP (dC 32) a_1.f_Leaves)]), (intVP .u32 a_2), (aggVP [bytesCk 32 a_3]), (intVP .i64 a_4)] [(Log_e p_0 L_0)] (fun _ => [Log_e p_0 r.2.2.2]) (tupVP [(aggVP [bytesCk 32 r.1.f_Seed, one (intVP .i64 r.1.f_Next), one (slVP (dC 32) r.1.f_Leaves)]), (aggVP [one (intVP .u32 r.2.1.f_Home), bytesCk 32 r.2.1.f_Key, one (intVP .i64 r.2.1.f_Watcher), one (intVP .i64 r.2.1.f_Sig.f_Index), one (slVP (dC 32) r.2.1.f_Sig.f_Parts), one (slVP (dC 32) r.2.1.f_Sig.f_Others), one (slVP (dC 32) r.2.1.f_Sig.f_Path)]), (intVP .i64 r.2.2.1)]) := by
  refine CallOk.intro 39 Tryd.func43 rfl Tryd.ntmps43 (Nat.le_of_ble_eq_true rfl) ?_
  intro c a w hG hn h
  unfold update_Stop at hF
  change SatL c [.slot 0 (eqVP p_0), .slot 1 (aggVP [bytesCk 32 a_1.f_Seed, one (intVP .i64 a_1.f_Next), one (slVP (dC 32) a_1.f_Leaves)]), .slot 2 (intVP .u32 a_2), .slot 3 (aggVP [bytesCk 32 a_3]), .slot 4 (intVP .i64 a_4), .res (Log_e p_0 L_0)] a w at h
  refine regS mixed hn hG h [0, 2, 4, 508, 506, 504, 502, 5, 507, 505, 503, 501] (ob [1] (op_box q0 (cells_agg _)) <| ob [3] (op_box q0 (cells_agg _)) <| ob [] (op_alloc Tryd.zeroValue27 z27) <| ob [] (op_alloc Tryd.zeroValue74 z74) <| ov [] (op_assign qi) .nil) fun b1 a w h => ?_
  obtain ⟨r5, hr5, hF⟩ := bind_some hF
  obtain ⟨r6, hr6, hF⟩ := bind_some hF
  refine regS mixed hn hG h [1, 2, 3, 4, 5, 6, 506, 504, 500, 8, 9, 10, 11, 511, 502, 501] (ov [3, 8] (op_load_w 1 Tryd.isAgg27 Tryd.sizeOf27 q0) <| ov [0] (op_move q0) <| ov [0] (op_move q0) <| ov [1] (op_move q0) <| ov [4, 9] (op_load_w 1 Tryd.isAgg23 Tryd.sizeOf23 q0) <| ov [2] (op_move q0) <| oc [503, 502, 501, 500] [7] Tryd.call31 (update_Halt_ok hr5) ⟨q0, q1, q2, q3, trivial⟩ <| oc [507, 506, 501] [500] Tryd.call14 (keys_Signer_Sign_ok hr6) ⟨q0, q1, q2, trivial⟩ <| ov [501] (op_move q0) <| ov [500] (op_extract q0 rfl) <| ov [501] (op_extract q0 rfl) <| ov [502] (op_extract q0 rfl) <| ob [] (op_alloc Tryd.zeroValue27 z27) <| ob [] (op_alloc Tryd.zeroValue31 z31) <| og [503, 506] [502] [.res 12 100000 (fun v1_ _ => (lb (v1_) 27 [bytesCk 32 r6.1.f_Seed, one (intVP .i64 r6.1.f_Next), one (slVP (dC 32) r6.1.f_Leaves)]))] (GOk.plain (op_store_w Tryd.sizeOf27 q0 q1 (cells_agg _)) rfl) <| og [502, 506] [501] [.res 13 100000 (fun v1_ _ => (lb (v1_) 31 [one (intVP .i64 r6.2.1.f_Index), one (slVP (dC 32) r6.2.1.f_Parts), one (slVP (dC 32) r6.2.1.f_Others), one (slVP (dC 32) r6.2.1.f_Path)]))] (GOk.plain (op_store_w Tryd.sizeOf31 q0 q1 (cells_agg _)) rfl) <| ov [506] (op_assign q0) .nil) fun b7 a w h => ?_
  refine wp_seq ?_
  refine regS mixed hn hG h [0, 1, 2, 3, 4, 5, 6, 7, 8, 500, 9, 10, 11, 12, 13, 14, 15] (ov [8] (op_move q0) <| ov [500] (op_bin bin_neq q0 qi) .nil) fun _ a w h => ?_
  refine cnd h hF 9 [2, 4, 5, 8, 10, 12, 13, 14] [0, 1, 3, 4, 5, 6, 7, 11, 12, 13, 14, 15, 16] (fun hb9 hF h => ?_) (fun hb9 hF h => ?_)
  · refine regS mixed hn hG h [1, 2, 500, 502, 501, 7] (ov [0, 4] (op_load_w 1 Tryd.isAgg27 Tryd.sizeOf27 q0) <| ov [] (op_build [] rfl bu74 z74 rfl) <| ov [3] (op_move q0) <| ou [1, 502] 5 (op_store_w Tryd.sizeOf27 q0 q1 (cells_agg _)) <| ou [2, 502] 6 (op_store_w Tryd.sizeOf74 q0 q1 (cells_agg _)) <| ov [502] (op_assign q0) .nil) fun _ a w h => ?_
    refine wp_ret ?_
    obtain rfl := Option.some.inj hF
    exact ⟨.inl rfl, retn h (rs := [.cell 10 27, .cell 11 74, .tmp 12]) (Vs := [(aggVP [bytesCk 32 a_1.f_Seed, one (intVP .i64 a_1.f_Next), one (slVP (dC 32) a_1.f_Leaves)]), (aggVP [one (intVP .u32 (0 : Int)), bytesCk 32 (List.replicate 32 0), one (intVP .i64 (0 : Int)), one (intVP .i64 ((S_api_Sig.mk (0 : Int) [] [] []).f_Index)), one (slVP (dC 32) ((S_api_Sig.mk (0 : Int) [] [] []).f_Parts)), one (slVP (dC 32) ((S_api_Sig.mk (0 : Int) [] [] []).f_Others)), one (slVP (dC 32) ((S_api_Sig.mk (0 : Int) [] [] []).f_Path))]), (intVP .i64 r6.2.2.1)]) Tryd.results43 (by decide) ⟨(r_cell 0 3 rfl rfl Tryd.isAgg27 Tryd.sizeOf27 rfl), (r_cell 1 4 rfl rfl Tryd.isAgg74 Tryd.sizeOf74 rfl), (r_tmp 2 rfl), trivial⟩ [5] [(Log_e p_0 r6.2.2.2)] rfl rfl rfl⟩
  · refine wp_skip ?_
    show Code.wp Tryd.prog _ _ a w
    refine regS mixed hn hG h [3, 4, 500, 502, 501, 10] (ov [5, 11] (op_load_w 1 Tryd.isAgg27 Tryd.sizeOf27 q0) <| ov [0] (op_move q0) <| ov [2, 7] (op_load_w 1 Tryd.isAgg23 Tryd.sizeOf23 q0) <| ov [1] (op_move q0) <| ov [6, 12] (op_load_w 1 Tryd.isAgg31 Tryd.sizeOf31 q0) <| ov [503, 502, 501, 500] (op_build [(0, .tmp 34), (1, .tmp 35), (2, .tmp 36), (3, .tmp 37)] rfl bu74 z74 ⟨[], [one (intVP .u32 (0 : Int))], [bytesCk 32 (List.replicate 32 0), one (intVP .i64 (0 : Int)), one (intVP .i64 ((S_api_Sig.mk (0 : Int) [] [] []).f_Index)), one (slVP (dC 32) ((S_api_Sig.mk (0 : Int) [] [] []).f_Parts)), one (slVP (dC 32) ((S_api_Sig.mk (0 : Int) [] [] []).f_Others)), one (slVP (dC 32) ((S_api_Sig.mk (0 : Int) [] [] []).f_Path))], [one (intVP .u32 a_2)], _, rfl, rfl, rfl, q0, (cells_one (one_int _ _)), ⟨[one (intVP .u32 a_2)], [bytesCk 32 (List.replicate 32 0)], [one (intVP .i64 (0 : Int)), one (intVP .i64 ((S_api_Sig.mk (0 : Int) [] [] []).f_Index)), one (slVP (dC 32) ((S_api_Sig.mk (0 : Int) [] [] []).f_Parts)), one (slVP (dC 32) ((S_api_Sig.mk (0 : Int) [] [] []).f_Others)), one (slVP (dC 32) ((S_api_Sig.mk (0 : Int) [] [] []).f_Path))], [bytesCk 32 a_3], _, rfl, rfl, rfl, q1, (cells_agg _), ⟨[one (intVP .u32 a_2), bytesCk 32 a_3], [one (intVP .i64 (0 : Int))], [one (intVP .i64 ((S_api_Sig.mk (0 : Int) [] [] []).f_Index)), one (slVP (dC 32) ((S_api_Sig.mk (0 : Int) [] [] []).f_Parts)), one (slVP (dC 32) ((S_api_Sig.mk (0 : Int) [] [] []).f_Others)), one (slVP (dC 32) ((S_api_Sig.mk (0 : Int) [] [] []).f_Path))], [one (intVP .i64 a_4)], _, rfl, rfl, rfl, q2, (cells_one (one_int _ _)), ⟨[one (intVP .u32 a_2), bytesCk 32 a_3, one (intVP .i64 a_4)], [one (intVP .i64 ((S_api_Sig.mk (0 : Int) [] [] []).f_Index)), one (slVP (dC 32) ((S_api_Sig.mk (0 : Int) [] [] []).f_Parts)), one (slVP (dC 32) ((S_api_Sig.mk (0 : Int) [] [] []).f_Others)), one (slVP (dC 32) ((S_api_Sig.mk (0 : Int) [] [] []).f_Path))], [], [one (intVP .i64 r6.2.1.f_Index), one (slVP (dC 32) r6.2.1.f_Parts), one (slVP (dC 32) r6.2.1.f_Others), one (slVP (dC 32) r6.2.1.f_Path)], _, rfl, rfl, rfl, q3, (cells_agg _), rfl⟩⟩⟩⟩) <| ou [3, 505] 8 (op_store_w Tryd.sizeOf27 q0 q1 (cells_agg _)) <| ou [4, 501] 9 (op_store_w Tryd.sizeOf74 q0 q1 (cells_agg _)) <| ov [] (op_assign qi) .nil) fun _ a w h => ?_
    refine wp_ret ?_
    obtain rfl := Option.some.inj hF
    exact ⟨.inl rfl, retn h (rs := [.cell 10 27, .cell 11 74, .tmp 12]) (Vs := [(aggVP [bytesCk 32 r6.1.f_Seed, one (intVP .i64 r6.1.f_Next), one (slVP (dC 32) r6.1.f_Leaves)]), (aggVP [one (intVP .u32 a_2), bytesCk 32 a_3, one (intVP .i64 a_4), one (intVP .i64 r6.2.1.f_Index), one (slVP (dC 32) r6.2.1.f_Parts), one (slVP (dC 32) r6.2.1.f_Others), one (slVP (dC 32) r6.2.1.f_Path)]), (intVP .i64 0)]) Tryd.results43 (by decide) ⟨(r_cell 0 3 rfl rfl Tryd.isAgg27 Tryd.sizeOf27 rfl), (r_cell 1 4 rfl rfl Tryd.isAgg74 Tryd.sizeOf74 rfl), (r_tmp 2 rfl), trivial⟩ [5] [(Log_e p_0 r6.2.2.2)] rfl rfl rfl⟩

def ref10_Halt (L_0 : Option O_RLog) (a_1 : Int) (a_2 : List UInt8) (a_3 : Int) : Option ((List UInt8) × (Option O_RLog)) := ((ref03_Big (IntKind.wrap .u64 a_1) 4).bind fun r3 => ((ref03_Bytes a_2).bind fun r4 => ((ref03_Big (IntKind.wrap .u64 a_3) 4).bind fun r5 => ((ref04_Log_Of L_0 9 [r3, r4, r5]).bind fun r6 => some (r6.1, r6.2)))))
theorem ref10_Halt_ok {p_0 : Value} {L_0 : Option O_RLog} {a_1 : Int} {a_2 : List UInt8} {a_3 : Int} {r : (List UInt8) × (Option O_RLog)} (hF : ref10_Halt L_0 a_1 a_2 a_3 = some r) : CallOk Tryd.prog KG 32 [(eqVP p_0), (intVP .u32 a_1), (aggVP [bytesCk 32 a_2]), (intVP .i64 a_3)] [(RLog_e p_0 L_0)] (fun _ => [RLog_e p_0 r.2]) (aggVP [bytesCk 32 r.1]) := by
  refine CallOk.intro 20 Tryd.func32 rfl Tryd.ntmps32 (Nat.le_of_ble_eq_true rfl) ?_
  intro c a w hG hn h
  unfold ref10_Halt at hF
  change SatL c [.slot 0 (eqVP p_0), .slot 1 (intVP .u32 a_1), .slot 2 (aggVP [bytesCk 32 a_2]), .slot 3 (intVP .i64 a_3), .res (RLog_e p_0 L_0)] a w at h
  refine regS mixed hn hG h [0, 1, 3, 503, 501, 4, 502, 500] (ob [2] (op_box q0 (cells_agg _)) <| ob [] (op_alloc Tryd.zeroValue23 z23) .nil) fun b1 a w h => ?_
  obtain ⟨r3, hr3, hF⟩ := bind_some hF
  obtain ⟨r4, hr4, hF⟩ := bind_some hF
  obtain ⟨r5, hr5, hF⟩ := bind_some hF
  obtain ⟨r6, hr6, hF⟩ := bind_some hF
  refine regS mixed hn hG h [4, 500, 501] (ov [0] (op_move q0) <| ov [1] (op_move q0) <| ov [500] (op_convert_int Tryd.underlying51 Tryd.underlying114 q0) <| oc [500] [] Tryd.call60 (ref03_Big_ok hr3) ⟨q0, qi, trivial⟩ <| ov [3, 6] (op_load_w 1 Tryd.isAgg23 Tryd.sizeOf23 q0) <| oc [500] [] Tryd.call61 (ref03_Bytes_ok hr4) ⟨q0, trivial⟩ <| ov [2] (op_move q0) <| ov [500] (op_convert_int Tryd.underlying3 Tryd.underlying114 q0) <| oc [500] [] Tryd.call60 (ref03_Big_ok hr5) ⟨q0, qi, trivial⟩ <| ov [505, 503, 500] (op_lit (xs := [.tmp 12, .tmp 14, .tmp 17]) (ys := [r3, r4, r5]) _ rfl Tryd.underlying101 Tryd.sizeOf9 Tryd.zeroValue9 rfl rfl (by decide) (by decide) ⟨⟨_, q0, (cells_one (one_str _))⟩, ⟨_, q1, (cells_one (one_str _))⟩, ⟨_, q2, (cells_one (one_str _))⟩, trivial⟩ lens_strC) <| oc [509, 500] [5] Tryd.call59 (ref04_Log_Of_ok hr6) ⟨q0, qi, q1, trivial⟩ <| ou [4, 501] 7 (op_store_w Tryd.sizeOf23 q0 q1 (cells_agg _)) .nil) fun _ a w h => ?_
  refine wp_ret ?_
  obtain rfl := Option.some.inj hF
  exact ⟨.inl rfl, ret1 h Tryd.results32 (r_cell 0 1 rfl rfl Tryd.isAgg23 Tryd.sizeOf23 rfl) [2] [(RLog_e p_0 r6.2)] rfl rfl rfl⟩

def ref10_Stop (L_0 : Option O_RLog) (a_1 : S_ref06_Signer) (a_2 : Int) (a_3 : List UInt8) (a_4 : Int) : Option (S_ref06_Signer × S_api_Stop × Int × (Option O_RLog)) := ((ref10_Halt L_0 a_2 a_3 a_4).bind fun r5 => ((ref06_Signer_Sign a_1 r5.2 r5.1).bind fun r6 => (if (!decide (r6.2.2.1 = (0 : Int))) = true then some (a_1, (S_api_Stop.mk (0 : Int) (List.replicate 32 0) (0 : Int) (S_api_Sig.mk (0 : Int) [] [] [])), r6.2.2.1, r6.2.2.2) else some (r6.1, (S_api_Stop.mk a_2 a_3 a_4 r6.2.1), 0, r6.2.2.2))))
theorem ref10_Stop_ok {p_0 : Value} {L_0 : Option O_RLog} {a_1 : S_ref06_Signer} {a_2 : Int} {a_3 : List UInt8} {a_4 : Int} {r : S_ref06_Signer × S_api_Stop × Int × (Option O_RLog)} (hF : ref10_Stop L_0 a_1 a_2 a_3 a_4 = some r) : CallOk Tryd.prog KG 44 [(eqVP p_0), (aggVP [bytesCk 32 a_1.f_Seed, one (intVP .i64 a_1.f_Next), one (slVP (dC 32) a_1.f_Leaves)]), (intVP .u32 a_2), (aggVP [bytesCk 32 a_3]), (intVP .i64 a_4)] [(RLog_e p_0 L_0)] (fun _ => [RLog_e p_0 r.2.2.2]) (tupVP [(aggVP [bytesCk 32 r.1.f_Seed, one (intVP .i64 r.1.f_Next), one (slVP (dC 32) r.1.f_Leaves)]), (aggVP [one (intVP .u32 r.2.1.f_Home), bytesCk 32 r.2.1.f_Key, one (intVP .i64 r.2.1.f_Watcher), one (intVP .i64 r.2.1.f_Sig.f_Index), one (slVP (dC 32) r.2.1.f_Sig.f_Parts), one (slVP (dC 32) r.2.1.f_Sig.f_Others), one (slVP (dC 32) r.2.1.f_Sig.f_Path)]), (intVP .i64 r.2.2.1)]) := by
  refine CallOk.intro 39 Tryd.func44 rfl Tryd.ntmps44 (Nat.le_of_ble_eq_true rfl) ?_
  intro c a w hG hn h
  unfold ref10_Stop at hF
  change SatL c [.slot 0 (eqVP p_0), .slot 1 (aggVP [bytesCk 32 a_1.f_Seed, one (intVP .i64 a_1.f_Next), one (slVP (dC 32) a_1.f_Leaves)]), .slot 2 (intVP .u32 a_2), .slot 3 (aggVP [bytesCk 32 a_3]), .slot 4 (intVP .i64 a_4), .res (RLog_e p_0 L_0)] a w at h
  refine regS mixed hn hG h [0, 2, 4, 508, 506, 504, 502, 5, 507, 505, 503, 501] (ob [1] (op_box q0 (cells_agg _)) <| ob [3] (op_box q0 (cells_agg _)) <| ob [] (op_alloc Tryd.zeroValue36 z36) <| ob [] (op_alloc Tryd.zeroValue74 z74) <| ov [] (op_assign qi) .nil) fun b1 a w h => ?_
  obtain ⟨r5, hr5, hF⟩ := bind_some hF
  obtain ⟨r6, hr6, hF⟩ := bind_some hF
  refine regS mixed hn hG h [1, 2, 3, 4, 5, 6, 506, 504, 500, 8, 9, 10, 11, 511, 502, 501] (ov [3, 8] (op_load_w 1 Tryd.isAgg36 Tryd.sizeOf36 q0) <| ov [0] (op_move q0) <| ov [0] (op_move q0) <| ov [1] (op_move q0) <| ov [4, 9] (op_load_w 1 Tryd.isAgg23 Tryd.sizeOf23 q0) <| ov [2] (op_move q0) <| oc [503, 502, 501, 500] [7] Tryd.call32 (ref10_Halt_ok hr5) ⟨q0, q1, q2, q3, trivial⟩ <| oc [507, 506, 501] [500] Tryd.call67 (ref06_Signer_Sign_ok hr6) ⟨q0, q1, q2, trivial⟩ <| ov [501] (op_move q0) <| ov [500] (op_extract q0 rfl) <| ov [501] (op_extract q0 rfl) <| ov [502] (op_extract q0 rfl) <| ob [] (op_alloc Tryd.zeroValue36 z36) <| ob [] (op_alloc Tryd.zeroValue31 z31) <| og [503, 506] [502] [.res 12 100000 (fun v1_ _ => (lb (v1_) 36 [bytesCk 32 r6.1.f_Seed, one (intVP .i64 r6.1.f_Next), one (slVP (dC 32) r6.1.f_Leaves)]))] (GOk.plain (op_store_w Tryd.sizeOf36 q0 q1 (cells_agg _)) rfl) <| og [502, 506] [501] [.res 13 100000 (fun v1_ _ => (lb (v1_) 31 [one (intVP .i64 r6.2.1.f_Index), one (slVP (dC 32) r6.2.1.f_Parts), one (slVP (dC 32) r6.2.1.f_Others), one (slVP (dC 32) r6.2.1.f_Path)]))] (GOk.plain (op_store_w Tryd.sizeOf31 q0 q1 (cells_agg _)) rfl) <| ov [506] (op_assign q0) .nil) fun b7 a w h => ?_
  refine wp_seq ?_
  refine regS mixed hn hG h [0, 1, 2, 3, 4, 5, 6, 7, 8, 500, 9, 10, 11, 12, 13, 14, 15] (ov [8] (op_move q0) <| ov [500] (op_bin bin_neq q0 qi) .nil) fun _ a w h => ?_
  refine cnd h hF 9 [2, 4, 5, 8, 10, 12, 13, 14] [0, 1, 3, 4, 5, 6, 7, 11, 12, 13, 14, 15, 16] (fun hb9 hF h => ?_) (fun hb9 hF h => ?_)
  · refine regS mixed hn hG h [1, 2, 500, 502, 501, 7] (ov [0, 4] (op_load_w 1 Tryd.isAgg36 Tryd.sizeOf36 q0) <| ov [] (op_build [] rfl bu74 z74 rfl) <| ov [3] (op_move q0) <| ou [1, 502] 5 (op_store_w Tryd.sizeOf36 q0 q1 (cells_agg _)) <| ou [2, 502] 6 (op_store_w Tryd.sizeOf74 q0 q1 (cells_agg _)) <| ov [502] (op_assign q0) .nil) fun _ a w h => ?_
    refine wp_ret ?_
    obtain rfl := Option.some.inj hF
    exact ⟨.inl rfl, retn h (rs := [.cell 10 36, .cell 11 74, .tmp 12]) (Vs := [(aggVP [bytesCk 32 a_1.f_Seed, one (intVP .i64 a_1.f_Next), one (slVP (dC 32) a_1.f_Leaves)]), (aggVP [one (intVP .u32 (0 : Int)), bytesCk 32 (List.replicate 32 0), one (intVP .i64 (0 : Int)), one (intVP .i64 ((S_api_Sig.mk (0 : Int) [] [] []).f_Index)), one (slVP (dC 32) ((S_api_Sig.mk (0 : Int) [] [] []).f_Parts)), one (slVP (dC 32) ((S_api_Sig.mk (0 : Int) [] [] []).f_Others)), one (slVP (dC 32) ((S_api_Sig.mk (0 : Int) [] [] []).f_Path))]), (intVP .i64 r6.2.2.1)]) Tryd.results44 (by decide) ⟨(r_cell 0 3 rfl rfl Tryd.isAgg36 Tryd.sizeOf36 rfl), (r_cell 1 4 rfl rfl Tryd.isAgg74 Tryd.sizeOf74 rfl), (r_tmp 2 rfl), trivial⟩ [5] [(RLog_e p_0 r6.2.2.2)] rfl rfl rfl⟩
  · refine wp_skip ?_
    show Code.wp Tryd.prog _ _ a w
    refine regS mixed hn hG h [3, 4, 500, 502, 501, 10] (ov [5, 11] (op_load_w 1 Tryd.isAgg36 Tryd.sizeOf36 q0) <| ov [0] (op_move q0) <| ov [2, 7] (op_load_w 1 Tryd.isAgg23 Tryd.sizeOf23 q0) <| ov [1] (op_move q0) <| ov [6, 12] (op_load_w 1 Tryd.isAgg31 Tryd.sizeOf31 q0) <| ov [503, 502, 501, 500] (op_build [(0, .tmp 34), (1, .tmp 35), (2, .tmp 36), (3, .tmp 37)] rfl bu74 z74 ⟨[], [one (intVP .u32 (0 : Int))], [bytesCk 32 (List.replicate 32 0), one (intVP .i64 (0 : Int)), one (intVP .i64 ((S_api_Sig.mk (0 : Int) [] [] []).f_Index)), one (slVP (dC 32) ((S_api_Sig.mk (0 : Int) [] [] []).f_Parts)), one (slVP (dC 32) ((S_api_Sig.mk (0 : Int) [] [] []).f_Others)), one (slVP (dC 32) ((S_api_Sig.mk (0 : Int) [] [] []).f_Path))], [one (intVP .u32 a_2)], _, rfl, rfl, rfl, q0, (cells_one (one_int _ _)), ⟨[one (intVP .u32 a_2)], [bytesCk 32 (List.replicate 32 0)], [one (intVP .i64 (0 : Int)), one (intVP .i64 ((S_api_Sig.mk (0 : Int) [] [] []).f_Index)), one (slVP (dC 32) ((S_api_Sig.mk (0 : Int) [] [] []).f_Parts)), one (slVP (dC 32) ((S_api_Sig.mk (0 : Int) [] [] []).f_Others)), one (slVP (dC 32) ((S_api_Sig.mk (0 : Int) [] [] []).f_Path))], [bytesCk 32 a_3], _, rfl, rfl, rfl, q1, (cells_agg _), ⟨[one (intVP .u32 a_2), bytesCk 32 a_3], [one (intVP .i64 (0 : Int))], [one (intVP .i64 ((S_api_Sig.mk (0 : Int) [] [] []).f_Index)), one (slVP (dC 32) ((S_api_Sig.mk (0 : Int) [] [] []).f_Parts)), one (slVP (dC 32) ((S_api_Sig.mk (0 : Int) [] [] []).f_Others)), one (slVP (dC 32) ((S_api_Sig.mk (0 : Int) [] [] []).f_Path))], [one (intVP .i64 a_4)], _, rfl, rfl, rfl, q2, (cells_one (one_int _ _)), ⟨[one (intVP .u32 a_2), bytesCk 32 a_3, one (intVP .i64 a_4)], [one (intVP .i64 ((S_api_Sig.mk (0 : Int) [] [] []).f_Index)), one (slVP (dC 32) ((S_api_Sig.mk (0 : Int) [] [] []).f_Parts)), one (slVP (dC 32) ((S_api_Sig.mk (0 : Int) [] [] []).f_Others)), one (slVP (dC 32) ((S_api_Sig.mk (0 : Int) [] [] []).f_Path))], [], [one (intVP .i64 r6.2.1.f_Index), one (slVP (dC 32) r6.2.1.f_Parts), one (slVP (dC 32) r6.2.1.f_Others), one (slVP (dC 32) r6.2.1.f_Path)], _, rfl, rfl, rfl, q3, (cells_agg _), rfl⟩⟩⟩⟩) <| ou [3, 505] 8 (op_store_w Tryd.sizeOf36 q0 q1 (cells_agg _)) <| ou [4, 501] 9 (op_store_w Tryd.sizeOf74 q0 q1 (cells_agg _)) <| ov [] (op_assign qi) .nil) fun _ a w h => ?_
    refine wp_ret ?_
    obtain rfl := Option.some.inj hF
    exact ⟨.inl rfl, retn h (rs := [.cell 10 36, .cell 11 74, .tmp 12]) (Vs := [(aggVP [bytesCk 32 r6.1.f_Seed, one (intVP .i64 r6.1.f_Next), one (slVP (dC 32) r6.1.f_Leaves)]), (aggVP [one (intVP .u32 a_2), bytesCk 32 a_3, one (intVP .i64 a_4), one (intVP .i64 r6.2.1.f_Index), one (slVP (dC 32) r6.2.1.f_Parts), one (slVP (dC 32) r6.2.1.f_Others), one (slVP (dC 32) r6.2.1.f_Path)]), (intVP .i64 0)]) Tryd.results44 (by decide) ⟨(r_cell 0 3 rfl rfl Tryd.isAgg36 Tryd.sizeOf36 rfl), (r_cell 1 4 rfl rfl Tryd.isAgg74 Tryd.sizeOf74 rfl), (r_tmp 2 rfl), trivial⟩ [5] [(RLog_e p_0 r6.2.2.2)] rfl rfl rfl⟩

def ref03_SameList.b1 (a_0 : List (List UInt8)) (a_1 : List (List UInt8)) (x6 : Int) : Option (Flow Bool Int) := (if (decide (x6 < (a_0.length : Int))) = true then (if (0 : Int) ≤ x6 ∧ x6 < a_0.length then (if (0 : Int) ≤ x6 ∧ x6 < a_1.length then (if (!decide ((a_0.getD x6.toNat default) = (a_1.getD x6.toNat default))) = true then some (.ret false) else some (.cont (IntKind.wrap .i64 (x6 + 1)))) else none) else none) else some (.brk x6))
def ref03_SameList (a_0 : List (List UInt8)) (a_1 : List (List UInt8)) : Option Bool := (if (!decide ((a_0.length : Int) = (a_1.length : Int))) = true then some false else ((loopN (fun s : Int => ref03_SameList.b1 a_0 a_1 s) (((a_0.length : Int) - 0 : Int).toNat + 2) 0).bind fun cr => match cr with | .ret r => some r | .next y20 => some true))
theorem ref03_SameList_ok {a_0 : List (List UInt8)} {a_1 : List (List UInt8)} {r : Bool} (hF : ref03_SameList a_0 a_1 = some r) : CallOk Tryd.prog KG 45 [(slVP (dC 32) a_0), (slVP (dC 32) a_1)] [] (fun _ => []) (boolVP r) := by
  refine CallOk.intro 26 Tryd.func45 rfl Tryd.ntmps45 (Nat.le_of_ble_eq_true rfl) ?_
  intro c a w hG hn h
  unfold ref03_SameList at hF
  change SatL c [.slot 0 (slVP (dC 32) a_0), .slot 1 (slVP (dC 32) a_1)] a w at h
  refine regS mixed hn hG h [0, 1] (ov [] (op_assign qb) .nil) fun _ a w h => ?_
  refine wp_seq ?_
  refine regS mixed hn hG h [0, 1, 500] (ov [0] (op_move q0) <| ov [500] (op_len_sl Tryd.underlying24 q0) <| ov [1] (op_move q0) <| ov [500] (op_len_sl Tryd.underlying24 q0) <| ov [502, 500] (op_bin bin_neq q0 q1) .nil) fun _ a w h => ?_
  refine cnd h hF 2 [] [0, 1] (fun hb1 hF h => ?_) (fun hb1 hF h => ?_)
  · refine regS mixed hn hG h [500] (ov [] (op_assign qb) .nil) fun _ a w h => ?_
    refine wp_ret ?_
    obtain rfl := Option.some.inj hF
    exact ⟨.inl rfl, ret1 h Tryd.results45 (r_tmp 0 rfl) [] [] rfl rfl rfl⟩
  · refine wp_skip ?_
    show Code.wp Tryd.prog _ _ a w
    refine wp_seq ?_
    refine regS mixed hn hG h [0, 1, 501, 500] (ov [0] (op_move q0) <| ov [500] (op_len_sl Tryd.underlying24 q0) <| ov [] (op_move qi) .nil) fun _ a w h => ?_
    refine wp_block ?_
    obtain ⟨cr16, hl17, hF⟩ := bind_some hF
    refine wp_mono (wp_loopN (R := Bool) (S := Int) (fun s a w => SatL c [.slot 0 (slVP (dC 32) a_0), .slot 1 (slVP (dC 32) a_1), .slot 12 (intVP .i64 (a_0.length : Int)), .slot 13 (intVP .i64 s)] a w) (fun res e a w => match res with | .next s => e = .exit 0 ∧ SatL c [] a w | .ret r => e = .ret ∧ RetOk Tryd.prog Tryd.f45 c (boolVP r) (fun _ => []) a w) ?_ _ 0 _ _ _ (h.sub [0, 1, 2, 3] (by rfl)) hl17) ?_
    · clear hl17 hF h
      intro x6 a w o h hF
      change ref03_SameList.b1 a_0 a_1 x6 = some o at hF
      unfold ref03_SameList.b1 at hF
      change SatL c [.slot 0 (slVP (dC 32) a_0), .slot 1 (slVP (dC 32) a_1), .slot 12 (intVP .i64 (a_0.length : Int)), .slot 13 (intVP .i64 x6)] a w at h
      refine regS mixed hn hG h [0, 1, 2, 3, 500] (ov [3, 2] (op_bin bin_lss q0 q1) .nil) fun _ a w h => ?_
      refine wp_seq ?_
      refine cnd h hF 4 [0, 1, 2, 3] [0, 1, 2, 3] (fun hb12 hF h => ?_) (fun hb12 hF h => ?_)
      · refine wp_skip ?_
        show Code.wp Tryd.prog _ _ a w
        refine wp_seq ?_
        refine wp_block ?_
        refine regS mixed hn hG h [0, 1, 500, 2, 3] (ov [3] (op_move q0) <| ov [500] (op_assign q0) .nil) fun _ a w h => ?_
        obtain ⟨hv13, hF⟩ := ite_some hF
        obtain ⟨hv14, hF⟩ := ite_some hF
        refine regS mixed hn hG h [0, 1, 3, 4, 500] (ov [0] (op_move q0) <| ov [2] (op_move q0) <| ov [501, 500] (op_indexAddr_sl Tryd.underlying24 Tryd.sizeOf23 (lens_dC 32) q0 q1 hv13) <| ov [500] (op_load_pp [bytesCk 32 (a_0.getD x6.toNat default)] [] Tryd.isAgg23 Tryd.sizeOf23 q0 rfl) <| ov [1] (op_move q0) <| ov [2] (op_move q0) <| ov [501, 500] (op_indexAddr_sl Tryd.underlying24 Tryd.sizeOf23 (lens_dC 32) q0 q1 hv14) <| ov [500] (op_load_pp [bytesCk 32 (a_1.getD x6.toNat default)] [] Tryd.isAgg23 Tryd.sizeOf23 q0 rfl) <| ov [504, 500] (op_bin (bin_aneq Tryd.underlying23 Tryd.underlying5 Tryd.type5 Tryd.sizeOf5 Tryd.isAgg5 Tryd.eqGuardType23) q0 q1) .nil) fun _ a w h => ?_
        refine cnd h hF 4 [] [0, 1, 2, 3] (fun hb15 hF h => ?_) (fun hb15 hF h => ?_)
        · refine regS mixed hn hG h [500] (ov [] (op_assign qb) .nil) fun _ a w h => ?_
          refine wp_ret ?_
          obtain rfl := Option.some.inj hF
          exact ⟨ret_ne, rfl, ret1 h Tryd.results45 (r_tmp 0 rfl) [] [] rfl rfl rfl⟩
        · refine wp_skip ?_
          show Code.wp Tryd.prog _ _ a w
          refine reg mixed hn hG h [0, 1, 2, 500] (ov [3] (op_bin bin_add q0 qi) <| od [500] 3 (op_move q0) .nil) fun _ a w h => ?_
          obtain rfl := Option.some.inj hF
          exact ⟨rfl, h.sub [0, 1, 2, 3] (by rfl)⟩
      · refine wp_exit ?_
        obtain rfl := Option.some.inj hF
        exact ⟨exit_ne _, rfl, h.sub [] (by rfl)⟩
    · clear hl17
      intro e a w hq
      cases cr16 with
      | ret r18 =>
        obtain ⟨rfl, hq⟩ := hq
        obtain rfl := Option.some.inj hF
        exact ⟨.inl rfl, hq⟩
      | next y20 =>
        obtain ⟨rfl, h⟩ := hq
        change SatL c [] a w at h
        refine inBlock_at ?_
        show Code.wp Tryd.prog _ _ a w
        refine regS mixed hn hG h [500] (ov [] (op_assign qb) .nil) fun _ a w h => ?_
        refine wp_ret ?_
        obtain rfl := Option.some.inj hF
        exact ⟨.inl rfl, ret1 h Tryd.results45 (r_tmp 0 rfl) [] [] rfl rfl rfl⟩

def ref03_SameSig.j1 (x6 : Bool) : Option Bool := some x6
def ref03_SameSig (a_0 : S_api_Sig) (a_1 : S_api_Sig) : Option Bool := (if (decide (a_0.f_Index = a_1.f_Index)) = true then ((ref03_SameList a_0.f_Parts a_1.f_Parts).bind fun r3 => (if r3 = true then ((ref03_SameList a_0.f_Others a_1.f_Others).bind fun r4 => (if r4 = true then ((ref03_SameList a_0.f_Path a_1.f_Path).bind fun r5 => ref03_SameSig.j1 r5) else ref03_SameSig.j1 false)) else ref03_SameSig.j1 false)) else ref03_SameSig.j1 false)
theorem ref03_SameSig_ok {a_0 : S_api_Sig} {a_1 : S_api_Sig} {r : Bool} (hF : ref03_SameSig a_0 a_1 = some r) : CallOk Tryd.prog KG 18 [(aggVP [one (intVP .i64 a_0.f_Index), one (slVP (dC 32) a_0.f_Parts), one (slVP (dC 32) a_0.f_Others), one (slVP (dC 32) a_0.f_Path)]), (aggVP [one (intVP .i64 a_1.f_Index), one (slVP (dC 32) a_1.f_Parts), one (slVP (dC 32) a_1.f_Others), one (slVP (dC 32) a_1.f_Path)])] [] (fun _ => []) (boolVP r) := by
  refine CallOk.intro 31 Tryd.func18 rfl Tryd.ntmps18 (Nat.le_of_ble_eq_true rfl) ?_
  intro c a w hG hn h
  unfold ref03_SameSig at hF
  change SatL c [.slot 0 (aggVP [one (intVP .i64 a_0.f_Index), one (slVP (dC 32) a_0.f_Parts), one (slVP (dC 32) a_0.f_Others), one (slVP (dC 32) a_0.f_Path)]), .slot 1 (aggVP [one (intVP .i64 a_1.f_Index), one (slVP (dC 32) a_1.f_Parts), one (slVP (dC 32) a_1.f_Others), one (slVP (dC 32) a_1.f_Path)])] a w at h
  refine regS mixed hn hG h [504, 502, 503, 501] (ob [0] (op_box q0 (cells_agg _)) <| ob [1] (op_box q0 (cells_agg _)) <| ov [] (op_assign qb) .nil) fun b1 a w h => ?_
  refine wp_seq ?_
  refine wp_cut (fun a w => ∃ (x6 : Bool), ref03_SameSig.j1 x6 = some r ∧ SatL c [.slot 4 (boolVP x6)] a w) ?_ ?_
  · rcases Bool.eq_false_or_eq_true (decide (a_0.f_Index = a_1.f_Index)) with hb7 | hb7
    · replace hF := tt_of hb7 hF
      obtain ⟨r3, hr3, hF⟩ := bind_some hF
      rcases Bool.eq_false_or_eq_true r3 with hb8 | hb8
      · replace hF := tt_of hb8 hF
        obtain ⟨r4, hr4, hF⟩ := bind_some hF
        rcases Bool.eq_false_or_eq_true r4 with hb9 | hb9
        · replace hF := tt_of hb9 hF
          obtain ⟨r5, hr5, hF⟩ := bind_some hF
          refine reg mixed hn hG h [500] (ov [0] (op_fieldAddr_lbm (p := (b1 0)) (n := 1) 0 0 Tryd.underlying31 rfl Tryd.sizeOf3 (by decide) q0 rfl) <| ov [500, 2] (op_load_lb1 [] [one (slVP (dC 32) a_0.f_Parts), one (slVP (dC 32) a_0.f_Others), one (slVP (dC 32) a_0.f_Path)] 1 Tryd.isAgg3 q0 rfl rfl) <| ov [1] (op_fieldAddr_lbm (p := (b1 1)) (n := 1) 0 0 Tryd.underlying31 rfl Tryd.sizeOf3 (by decide) q0 rfl) <| ov [500, 3] (op_load_lb1 [] [one (slVP (dC 32) a_1.f_Parts), one (slVP (dC 32) a_1.f_Others), one (slVP (dC 32) a_1.f_Path)] 1 Tryd.isAgg3 q0 rfl rfl) <| ov [502, 500] (op_bin bin_eql q0 q1) <| ov [500] (op_move q0) <| oe [500, 0] [] (GOk.on_eq hb7 rfl rfl rfl (op_fieldAddr_lbm (p := (b1 0)) (n := 1) 0 1 Tryd.underlying31 rfl Tryd.sizeOf24 (by decide) q0 rfl)) <| oe [501, 500, 2] [] (GOk.on_eq hb7 rfl rfl rfl (op_load_lb1 [one (intVP .i64 a_0.f_Index)] [one (slVP (dC 32) a_0.f_Others), one (slVP (dC 32) a_0.f_Path)] 1 Tryd.isAgg24 q0 rfl rfl)) <| oe [502, 1] [] (GOk.on_eq hb7 rfl rfl rfl (op_fieldAddr_lbm (p := (b1 1)) (n := 1) 0 1 Tryd.underlying31 rfl Tryd.sizeOf24 (by decide) q0 rfl)) <| oe [503, 500, 3] [] (GOk.on_eq hb7 rfl rfl rfl (op_load_lb1 [one (intVP .i64 a_1.f_Index)] [one (slVP (dC 32) a_1.f_Others), one (slVP (dC 32) a_1.f_Path)] 1 Tryd.isAgg24 q0 rfl rfl)) <| oe [504, 502, 500] [] (GOk.on_eq hb7 rfl rfl rfl (op_call Tryd.call45 (ref03_SameList_ok hr3) ⟨q0, q1, trivial⟩)) <| ov [505, 500] (op_pick_t hb7 q0 q1) <| ov [500] (op_move q0) <| oe [500, 0] [] (GOk.on_eq hb8 rfl rfl rfl (op_fieldAddr_lbm (p := (b1 0)) (n := 1) 0 2 Tryd.underlying31 rfl Tryd.sizeOf24 (by decide) q0 rfl)) <| oe [501, 500, 2] [] (GOk.on_eq hb8 rfl rfl rfl (op_load_lb1 [one (intVP .i64 a_0.f_Index), one (slVP (dC 32) a_0.f_Parts)] [one (slVP (dC 32) a_0.f_Path)] 1 Tryd.isAgg24 q0 rfl rfl)) <| oe [502, 1] [] (GOk.on_eq hb8 rfl rfl rfl (op_fieldAddr_lbm (p := (b1 1)) (n := 1) 0 2 Tryd.underlying31 rfl Tryd.sizeOf24 (by decide) q0 rfl)) <| oe [503, 500, 3] [] (GOk.on_eq hb8 rfl rfl rfl (op_load_lb1 [one (intVP .i64 a_1.f_Index), one (slVP (dC 32) a_1.f_Parts)] [one (slVP (dC 32) a_1.f_Path)] 1 Tryd.isAgg24 q0 rfl rfl)) <| oe [504, 502, 500] [] (GOk.on_eq hb8 rfl rfl rfl (op_call Tryd.call45 (ref03_SameList_ok hr4) ⟨q0, q1, trivial⟩)) <| ov [505, 500] (op_pick_t hb8 q0 q1) <| ov [500] (op_move q0) <| oe [500, 0] [] (GOk.on_eq hb9 rfl rfl rfl (op_fieldAddr_lbm (p := (b1 0)) (n := 1) 0 3 Tryd.underlying31 rfl Tryd.sizeOf24 (by decide) q0 rfl)) <| oe [501, 500, 2] [] (GOk.on_eq hb9 rfl rfl rfl (op_load_lb1 [one (intVP .i64 a_0.f_Index), one (slVP (dC 32) a_0.f_Parts), one (slVP (dC 32) a_0.f_Others)] [] 1 Tryd.isAgg24 q0 rfl rfl)) <| oe [502, 1] [] (GOk.on_eq hb9 rfl rfl rfl (op_fieldAddr_lbm (p := (b1 1)) (n := 1) 0 3 Tryd.underlying31 rfl Tryd.sizeOf24 (by decide) q0 rfl)) <| oe [503, 500, 3] [] (GOk.on_eq hb9 rfl rfl rfl (op_load_lb1 [one (intVP .i64 a_1.f_Index), one (slVP (dC 32) a_1.f_Parts), one (slVP (dC 32) a_1.f_Others)] [] 1 Tryd.isAgg24 q0 rfl rfl)) <| oe [504, 502, 500] [] (GOk.on_eq hb9 rfl rfl rfl (op_call Tryd.call45 (ref03_SameList_ok hr5) ⟨q0, q1, trivial⟩)) <| ov [505, 500] (op_pick_t hb9 q0 q1) <| ov [500] (op_assign q0) .nil) fun _ a w h => ?_
          exact ⟨r5, hF, h.sub [0] (by rfl)⟩
        · replace hF := ff_of hb9 hF
          refine reg mixed hn hG h [500] (ov [0] (op_fieldAddr_lbm (p := (b1 0)) (n := 1) 0 0 Tryd.underlying31 rfl Tryd.sizeOf3 (by decide) q0 rfl) <| ov [500, 2] (op_load_lb1 [] [one (slVP (dC 32) a_0.f_Parts), one (slVP (dC 32) a_0.f_Others), one (slVP (dC 32) a_0.f_Path)] 1 Tryd.isAgg3 q0 rfl rfl) <| ov [1] (op_fieldAddr_lbm (p := (b1 1)) (n := 1) 0 0 Tryd.underlying31 rfl Tryd.sizeOf3 (by decide) q0 rfl) <| ov [500, 3] (op_load_lb1 [] [one (slVP (dC 32) a_1.f_Parts), one (slVP (dC 32) a_1.f_Others), one (slVP (dC 32) a_1.f_Path)] 1 Tryd.isAgg3 q0 rfl rfl) <| ov [502, 500] (op_bin bin_eql q0 q1) <| ov [500] (op_move q0) <| oe [500, 0] [] (GOk.on_eq hb7 rfl rfl rfl (op_fieldAddr_lbm (p := (b1 0)) (n := 1) 0 1 Tryd.underlying31 rfl Tryd.sizeOf24 (by decide) q0 rfl)) <| oe [501, 500, 2] [] (GOk.on_eq hb7 rfl rfl rfl (op_load_lb1 [one (intVP .i64 a_0.f_Index)] [one (slVP (dC 32) a_0.f_Others), one (slVP (dC 32) a_0.f_Path)] 1 Tryd.isAgg24 q0 rfl rfl)) <| oe [502, 1] [] (GOk.on_eq hb7 rfl rfl rfl (op_fieldAddr_lbm (p := (b1 1)) (n := 1) 0 1 Tryd.underlying31 rfl Tryd.sizeOf24 (by decide) q0 rfl)) <| oe [503, 500, 3] [] (GOk.on_eq hb7 rfl rfl rfl (op_load_lb1 [one (intVP .i64 a_1.f_Index)] [one (slVP (dC 32) a_1.f_Others), one (slVP (dC 32) a_1.f_Path)] 1 Tryd.isAgg24 q0 rfl rfl)) <| oe [504, 502, 500] [] (GOk.on_eq hb7 rfl rfl rfl (op_call Tryd.call45 (ref03_SameList_ok hr3) ⟨q0, q1, trivial⟩)) <| ov [505, 500] (op_pick_t hb7 q0 q1) <| ov [500] (op_move q0) <| oe [500, 0] [] (GOk.on_eq hb8 rfl rfl rfl (op_fieldAddr_lbm (p := (b1 0)) (n := 1) 0 2 Tryd.underlying31 rfl Tryd.sizeOf24 (by decide) q0 rfl)) <| oe [501, 500, 2] [] (GOk.on_eq hb8 rfl rfl rfl (op_load_lb1 [one (intVP .i64 a_0.f_Index), one (slVP (dC 32) a_0.f_Parts)] [one (slVP (dC 32) a_0.f_Path)] 1 Tryd.isAgg24 q0 rfl rfl)) <| oe [502, 1] [] (GOk.on_eq hb8 rfl rfl rfl (op_fieldAddr_lbm (p := (b1 1)) (n := 1) 0 2 Tryd.underlying31 rfl Tryd.sizeOf24 (by decide) q0 rfl)) <| oe [503, 500, 3] [] (GOk.on_eq hb8 rfl rfl rfl (op_load_lb1 [one (intVP .i64 a_1.f_Index), one (slVP (dC 32) a_1.f_Parts)] [one (slVP (dC 32) a_1.f_Path)] 1 Tryd.isAgg24 q0 rfl rfl)) <| oe [504, 502, 500] [] (GOk.on_eq hb8 rfl rfl rfl (op_call Tryd.call45 (ref03_SameList_ok hr4) ⟨q0, q1, trivial⟩)) <| ov [505, 500] (op_pick_t hb8 q0 q1) <| ov [500] (op_move q0) <| oe [500] [] (GOk.off_v (want := true) hb9 rfl rfl rfl rfl) <| oe [501] [] (GOk.off_v (want := true) hb9 rfl rfl rfl rfl) <| oe [502] [] (GOk.off_v (want := true) hb9 rfl rfl rfl rfl) <| oe [503] [] (GOk.off_v (want := true) hb9 rfl rfl rfl rfl) <| oe [504] [] (GOk.off_v (want := true) hb9 rfl rfl rfl rfl) <| ov [505] (op_pick_f hb9 q0 qb) <| ov [500] (op_assign q0) .nil) fun _ a w h => ?_
          exact ⟨false, hF, h.sub [0] (by rfl)⟩
      · replace hF := ff_of hb8 hF
        refine reg mixed hn hG h [500] (ov [0] (op_fieldAddr_lbm (p := (b1 0)) (n := 1) 0 0 Tryd.underlying31 rfl Tryd.sizeOf3 (by decide) q0 rfl) <| ov [500, 2] (op_load_lb1 [] [one (slVP (dC 32) a_0.f_Parts), one (slVP (dC 32) a_0.f_Others), one (slVP (dC 32) a_0.f_Path)] 1 Tryd.isAgg3 q0 rfl rfl) <| ov [1] (op_fieldAddr_lbm (p := (b1 1)) (n := 1) 0 0 Tryd.underlying31 rfl Tryd.sizeOf3 (by decide) q0 rfl) <| ov [500, 3] (op_load_lb1 [] [one (slVP (dC 32) a_1.f_Parts), one (slVP (dC 32) a_1.f_Others), one (slVP (dC 32) a_1.f_Path)] 1 Tryd.isAgg3 q0 rfl rfl) <| ov [502, 500] (op_bin bin_eql q0 q1) <| ov [500] (op_move q0) <| oe [500, 0] [] (GOk.on_eq hb7 rfl rfl rfl (op_fieldAddr_lbm (p := (b1 0)) (n := 1) 0 1 Tryd.underlying31 rfl Tryd.sizeOf24 (by decide) q0 rfl)) <| oe [501, 500, 2] [] (GOk.on_eq hb7 rfl rfl rfl (op_load_lb1 [one (intVP .i64 a_0.f_Index)] [one (slVP (dC 32) a_0.f_Others), one (slVP (dC 32) a_0.f_Path)] 1 Tryd.isAgg24 q0 rfl rfl)) <| oe [502, 1] [] (GOk.on_eq hb7 rfl rfl rfl (op_fieldAddr_lbm (p := (b1 1)) (n := 1) 0 1 Tryd.underlying31 rfl Tryd.sizeOf24 (by decide) q0 rfl)) <| oe [503, 500, 3] [] (GOk.on_eq hb7 rfl rfl rfl (op_load_lb1 [one (intVP .i64 a_1.f_Index)] [one (slVP (dC 32) a_1.f_Others), one (slVP (dC 32) a_1.f_Path)] 1 Tryd.isAgg24 q0 rfl rfl)) <| oe [504, 502, 500] [] (GOk.on_eq hb7 rfl rfl rfl (op_call Tryd.call45 (ref03_SameList_ok hr3) ⟨q0, q1, trivial⟩)) <| ov [505, 500] (op_pick_t hb7 q0 q1) <| ov [500] (op_move q0) <| oe [500] [] (GOk.off_v (want := true) hb8 rfl rfl rfl rfl) <| oe [501] [] (GOk.off_v (want := true) hb8 rfl rfl rfl rfl) <| oe [502] [] (GOk.off_v (want := true) hb8 rfl rfl rfl rfl) <| oe [503] [] (GOk.off_v (want := true) hb8 rfl rfl rfl rfl) <| oe [504] [] (GOk.off_v (want := true) hb8 rfl rfl rfl rfl) <| ov [505] (op_pick_f hb8 q0 qb) <| ov [500] (op_move q0) <| oe [500] [] (GOk.off_v (want := true) rfl rfl rfl rfl rfl) <| oe [501] [] (GOk.off_v (want := true) rfl rfl rfl rfl rfl) <| oe [502] [] (GOk.off_v (want := true) rfl rfl rfl rfl rfl) <| oe [503] [] (GOk.off_v (want := true) rfl rfl rfl rfl rfl) <| oe [504] [] (GOk.off_v (want := true) rfl rfl rfl rfl rfl) <| ov [505] (op_pick_f rfl q0 qb) <| ov [500] (op_assign q0) .nil) fun _ a w h => ?_
        exact ⟨false, hF, h.sub [0] (by rfl)⟩
    · replace hF := ff_of hb7 hF
      refine reg mixed hn hG h [500] (ov [0] (op_fieldAddr_lbm (p := (b1 0)) (n := 1) 0 0 Tryd.underlying31 rfl Tryd.sizeOf3 (by decide) q0 rfl) <| ov [500, 2] (op_load_lb1 [] [one (slVP (dC 32) a_0.f_Parts), one (slVP (dC 32) a_0.f_Others), one (slVP (dC 32) a_0.f_Path)] 1 Tryd.isAgg3 q0 rfl rfl) <| ov [1] (op_fieldAddr_lbm (p := (b1 1)) (n := 1) 0 0 Tryd.underlying31 rfl Tryd.sizeOf3 (by decide) q0 rfl) <| ov [500, 3] (op_load_lb1 [] [one (slVP (dC 32) a_1.f_Parts), one (slVP (dC 32) a_1.f_Others), one (slVP (dC 32) a_1.f_Path)] 1 Tryd.isAgg3 q0 rfl rfl) <| ov [502, 500] (op_bin bin_eql q0 q1) <| ov [500] (op_move q0) <| oe [500] [] (GOk.off_v (want := true) hb7 rfl rfl rfl rfl) <| oe [501] [] (GOk.off_v (want := true) hb7 rfl rfl rfl rfl) <| oe [502] [] (GOk.off_v (want := true) hb7 rfl rfl rfl rfl) <| oe [503] [] (GOk.off_v (want := true) hb7 rfl rfl rfl rfl) <| oe [504] [] (GOk.off_v (want := true) hb7 rfl rfl rfl rfl) <| ov [505] (op_pick_f hb7 q0 qb) <| ov [500] (op_move q0) <| oe [500] [] (GOk.off_v (want := true) rfl rfl rfl rfl rfl) <| oe [501] [] (GOk.off_v (want := true) rfl rfl rfl rfl rfl) <| oe [502] [] (GOk.off_v (want := true) rfl rfl rfl rfl rfl) <| oe [503] [] (GOk.off_v (want := true) rfl rfl rfl rfl rfl) <| oe [504] [] (GOk.off_v (want := true) rfl rfl rfl rfl rfl) <| ov [505] (op_pick_f rfl q0 qb) <| ov [500] (op_move q0) <| oe [500] [] (GOk.off_v (want := true) rfl rfl rfl rfl rfl) <| oe [501] [] (GOk.off_v (want := true) rfl rfl rfl rfl rfl) <| oe [502] [] (GOk.off_v (want := true) rfl rfl rfl rfl rfl) <| oe [503] [] (GOk.off_v (want := true) rfl rfl rfl rfl rfl) <| oe [504] [] (GOk.off_v (want := true) rfl rfl rfl rfl rfl) <| ov [505] (op_pick_f rfl q0 qb) <| ov [500] (op_assign q0) .nil) fun _ a w h => ?_
      exact ⟨false, hF, h.sub [0] (by rfl)⟩
  · clear h hF
    rintro a w ⟨x6, hF, h⟩
    unfold ref03_SameSig.j1 at hF
    show Code.wp Tryd.prog _ _ a w
    refine wp_ret ?_
    obtain rfl := Option.some.inj hF
    exact ⟨.inl rfl, ret1 h Tryd.results18 (r_tmp 0 rfl) [] [] rfl rfl rfl⟩

def ref10_Same.j1 (x4 : Bool) : Option Bool := some x4
def ref10_Same (a_0 : S_api_Update) (a_1 : S_api_Update) : Option Bool := (if (decide (a_0.f_Home = a_1.f_Home)) = true then (if (decide (a_0.f_Old = a_1.f_Old)) = true then (if (decide (a_0.f_New = a_1.f_New)) = true then ((ref03_SameSig a_0.f_Sig a_1.f_Sig).bind fun r3 => ref10_Same.j1 r3) else ref10_Same.j1 false) else ref10_Same.j1 false) else ref10_Same.j1 false)
theorem ref10_Same_ok {a_0 : S_api_Update} {a_1 : S_api_Update} {r : Bool} (hF : ref10_Same a_0 a_1 = some r) : CallOk Tryd.prog KG 46 [(aggVP [one (intVP .u32 a_0.f_Home), bytesCk 32 a_0.f_Old, bytesCk 32 a_0.f_New, one (intVP .i64 a_0.f_Sig.f_Index), one (slVP (dC 32) a_0.f_Sig.f_Parts), one (slVP (dC 32) a_0.f_Sig.f_Others), one (slVP (dC 32) a_0.f_Sig.f_Path)]), (aggVP [one (intVP .u32 a_1.f_Home), bytesCk 32 a_1.f_Old, bytesCk 32 a_1.f_New, one (intVP .i64 a_1.f_Sig.f_Index), one (slVP (dC 32) a_1.f_Sig.f_Parts), one (slVP (dC 32) a_1.f_Sig.f_Others), one (slVP (dC 32) a_1.f_Sig.f_Path)])] [] (fun _ => []) (boolVP r) := by
  refine CallOk.intro 31 Tryd.func46 rfl Tryd.ntmps46 (Nat.le_of_ble_eq_true rfl) ?_
  intro c a w hG hn h
  unfold ref10_Same at hF
  change SatL c [.slot 0 (aggVP [one (intVP .u32 a_0.f_Home), bytesCk 32 a_0.f_Old, bytesCk 32 a_0.f_New, one (intVP .i64 a_0.f_Sig.f_Index), one (slVP (dC 32) a_0.f_Sig.f_Parts), one (slVP (dC 32) a_0.f_Sig.f_Others), one (slVP (dC 32) a_0.f_Sig.f_Path)]), .slot 1 (aggVP [one (intVP .u32 a_1.f_Home), bytesCk 32 a_1.f_Old, bytesCk 32 a_1.f_New, one (intVP .i64 a_1.f_Sig.f_Index), one (slVP (dC 32) a_1.f_Sig.f_Parts), one (slVP (dC 32) a_1.f_Sig.f_Others), one (slVP (dC 32) a_1.f_Sig.f_Path)])] a w at h
  refine regS mixed hn hG h [504, 502, 503, 501] (ob [0] (op_box q0 (cells_agg _)) <| ob [1] (op_box q0 (cells_agg _)) <| ov [] (op_assign qb) .nil) fun b1 a w h => ?_
  refine wp_seq ?_
  refine wp_cut (fun a w => ∃ (x4 : Bool), ref10_Same.j1 x4 = some r ∧ SatL c [.slot 4 (boolVP x4)] a w) ?_ ?_
  · rcases Bool.eq_false_or_eq_true (decide (a_0.f_Home = a_1.f_Home)) with hb5 | hb5
    · replace hF := tt_of hb5 hF
      rcases Bool.eq_false_or_eq_true (decide (a_0.f_Old = a_1.f_Old)) with hb6 | hb6
      · replace hF := tt_of hb6 hF
        rcases Bool.eq_false_or_eq_true (decide (a_0.f_New = a_1.f_New)) with hb7 | hb7
        · replace hF := tt_of hb7 hF
          obtain ⟨r3, hr3, hF⟩ := bind_some hF
          refine reg mixed hn hG h [500] (ov [0] (op_fieldAddr_lbm (p := (b1 0)) (n := 1) 0 0 Tryd.underlying53 rfl Tryd.sizeOf51 (by decide) q0 rfl) <| ov [500, 2] (op_load_lb1 [] [bytesCk 32 a_0.f_Old, bytesCk 32 a_0.f_New, one (intVP .i64 a_0.f_Sig.f_Index), one (slVP (dC 32) a_0.f_Sig.f_Parts), one (slVP (dC 32) a_0.f_Sig.f_Others), one (slVP (dC 32) a_0.f_Sig.f_Path)] 1 Tryd.isAgg51 q0 rfl rfl) <| ov [1] (op_fieldAddr_lbm (p := (b1 1)) (n := 1) 0 0 Tryd.underlying53 rfl Tryd.sizeOf51 (by decide) q0 rfl) <| ov [500, 3] (op_load_lb1 [] [bytesCk 32 a_1.f_Old, bytesCk 32 a_1.f_New, one (intVP .i64 a_1.f_Sig.f_Index), one (slVP (dC 32) a_1.f_Sig.f_Parts), one (slVP (dC 32) a_1.f_Sig.f_Others), one (slVP (dC 32) a_1.f_Sig.f_Path)] 1 Tryd.isAgg51 q0 rfl rfl) <| ov [502, 500] (op_bin bin_eql q0 q1) <| ov [500] (op_move q0) <| oe [500, 0] [] (GOk.on_eq hb5 rfl rfl rfl (op_fieldAddr_lbm (p := (b1 0)) (n := 32) 0 1 Tryd.underlying53 rfl Tryd.sizeOf23 (by decide) q0 rfl)) <| oe [501, 500, 2] [] (GOk.on_eq hb5 rfl rfl rfl (op_load_lb [one (intVP .u32 a_0.f_Home)] [bytesCk 32 a_0.f_Old] [bytesCk 32 a_0.f_New, one (intVP .i64 a_0.f_Sig.f_Index), one (slVP (dC 32) a_0.f_Sig.f_Parts), one (slVP (dC 32) a_0.f_Sig.f_Others), one (slVP (dC 32) a_0.f_Sig.f_Path)] 1 Tryd.isAgg23 Tryd.sizeOf23 q0 rfl rfl rfl)) <| oe [502, 1] [] (GOk.on_eq hb5 rfl rfl rfl (op_fieldAddr_lbm (p := (b1 1)) (n := 32) 0 1 Tryd.underlying53 rfl Tryd.sizeOf23 (by decide) q0 rfl)) <| oe [503, 500, 3] [] (GOk.on_eq hb5 rfl rfl rfl (op_load_lb [one (intVP .u32 a_1.f_Home)] [bytesCk 32 a_1.f_Old] [bytesCk 32 a_1.f_New, one (intVP .i64 a_1.f_Sig.f_Index), one (slVP (dC 32) a_1.f_Sig.f_Parts), one (slVP (dC 32) a_1.f_Sig.f_Others), one (slVP (dC 32) a_1.f_Sig.f_Path)] 1 Tryd.isAgg23 Tryd.sizeOf23 q0 rfl rfl rfl)) <| oe [504, 502, 500] [] (GOk.on_eq hb5 rfl rfl rfl (op_bin (bin_aeql Tryd.underlying23 Tryd.underlying5 Tryd.type5 Tryd.sizeOf5 Tryd.isAgg5 Tryd.eqGuardType23) q0 q1)) <| ov [505, 500] (op_pick_t hb5 q0 q1) <| ov [500] (op_move q0) <| oe [500, 0] [] (GOk.on_eq hb6 rfl rfl rfl (op_fieldAddr_lbm (p := (b1 0)) (n := 32) 0 33 Tryd.underlying53 rfl Tryd.sizeOf23 (by decide) q0 rfl)) <| oe [501, 500, 2] [] (GOk.on_eq hb6 rfl rfl rfl (op_load_lb [one (intVP .u32 a_0.f_Home), bytesCk 32 a_0.f_Old] [bytesCk 32 a_0.f_New] [one (intVP .i64 a_0.f_Sig.f_Index), one (slVP (dC 32) a_0.f_Sig.f_Parts), one (slVP (dC 32) a_0.f_Sig.f_Others), one (slVP (dC 32) a_0.f_Sig.f_Path)] 1 Tryd.isAgg23 Tryd.sizeOf23 q0 rfl rfl rfl)) <| oe [502, 1] [] (GOk.on_eq hb6 rfl rfl rfl (op_fieldAddr_lbm (p := (b1 1)) (n := 32) 0 33 Tryd.underlying53 rfl Tryd.sizeOf23 (by decide) q0 rfl)) <| oe [503, 500, 3] [] (GOk.on_eq hb6 rfl rfl rfl (op_load_lb [one (intVP .u32 a_1.f_Home), bytesCk 32 a_1.f_Old] [bytesCk 32 a_1.f_New] [one (intVP .i64 a_1.f_Sig.f_Index), one (slVP (dC 32) a_1.f_Sig.f_Parts), one (slVP (dC 32) a_1.f_Sig.f_Others), one (slVP (dC 32) a_1.f_Sig.f_Path)] 1 Tryd.isAgg23 Tryd.sizeOf23 q0 rfl rfl rfl)) <| oe [504, 502, 500] [] (GOk.on_eq hb6 rfl rfl rfl (op_bin (bin_aeql Tryd.underlying23 Tryd.underlying5 Tryd.type5 Tryd.sizeOf5 Tryd.isAgg5 Tryd.eqGuardType23) q0 q1)) <| ov [505, 500] (op_pick_t hb6 q0 q1) <| ov [500] (op_move q0) <| oe [500, 0] [] (GOk.on_eq hb7 rfl rfl rfl (op_fieldAddr_lbm (p := (b1 0)) (n := 4) 0 65 Tryd.underlying53 rfl Tryd.sizeOf31 (by decide) q0 rfl)) <| oe [501, 500, 2] [] (GOk.on_eq hb7 rfl rfl rfl (op_load_lb [one (intVP .u32 a_0.f_Home), bytesCk 32 a_0.f_Old, bytesCk 32 a_0.f_New] [one (intVP .i64 a_0.f_Sig.f_Index), one (slVP (dC 32) a_0.f_Sig.f_Parts), one (slVP (dC 32) a_0.f_Sig.f_Others), one (slVP (dC 32) a_0.f_Sig.f_Path)] [] 1 Tryd.isAgg31 Tryd.sizeOf31 q0 rfl rfl rfl)) <| oe [502, 1] [] (GOk.on_eq hb7 rfl rfl rfl (op_fieldAddr_lbm (p := (b1 1)) (n := 4) 0 65 Tryd.underlying53 rfl Tryd.sizeOf31 (by decide) q0 rfl)) <| oe [503, 500, 3] [] (GOk.on_eq hb7 rfl rfl rfl (op_load_lb [one (intVP .u32 a_1.f_Home), bytesCk 32 a_1.f_Old, bytesCk 32 a_1.f_New] [one (intVP .i64 a_1.f_Sig.f_Index), one (slVP (dC 32) a_1.f_Sig.f_Parts), one (slVP (dC 32) a_1.f_Sig.f_Others), one (slVP (dC 32) a_1.f_Sig.f_Path)] [] 1 Tryd.isAgg31 Tryd.sizeOf31 q0 rfl rfl rfl)) <| oe [504, 502, 500] [] (GOk.on_eq hb7 rfl rfl rfl (op_call Tryd.call18 (ref03_SameSig_ok hr3) ⟨q0, q1, trivial⟩)) <| ov [505, 500] (op_pick_t hb7 q0 q1) <| ov [500] (op_assign q0) .nil) fun _ a w h => ?_
          exact ⟨r3, hF, h.sub [0] (by rfl)⟩
        · replace hF := ff_of hb7 hF
          refine reg mixed hn hG h [500] (ov [0] (op_fieldAddr_lbm (p := (b1 0)) (n := 1) 0 0 Tryd.underlying53 rfl Tryd.sizeOf51 (by decide) q0 rfl) <| ov [500, 2] (op_load_lb1 [] [bytesCk 32 a_0.f_Old, bytesCk 32 a_0.f_New, one (intVP .i64 a_0.f_Sig.f_Index), one (slVP (dC 32) a_0.f_Sig.f_Parts), one (slVP (dC 32) a_0.f_Sig.f_Others), one (slVP (dC 32) a_0.f_Sig.f_Path)] 1 Tryd.isAgg51 q0 rfl rfl) <| ov [1] (op_fieldAddr_lbm (p := (b1 1)) (n := 1) 0 0 Tryd.underlying53 rfl Tryd.sizeOf51 (by decide) q0 rfl) <| ov [500, 3] (op_load_lb1 [] [bytesCk 32 a_1.f_Old, bytesCk 32 a_1.f_New, one (intVP .i64 a_1.f_Sig.f_Index), one (slVP (dC 32) a_1.f_Sig.f_Parts), one (slVP (dC 32) a_1.f_Sig.f_Others), one (slVP (dC 32) a_1.f_Sig.f_Path)] 1 Tryd.isAgg51 q0 rfl rfl) <| ov [502, 500] (op_bin bin_eql q0 q1) <| ov [500] (op_move q0) <| oe [500, 0] [] (GOk.on_eq hb5 rfl rfl rfl (op_fieldAddr_lbm (p := (b1 0)) (n := 32) 0 1 Tryd.underlying53 rfl Tryd.sizeOf23 (by decide) q0 rfl)) <| oe [501, 500, 2] [] (GOk.on_eq hb5 rfl rfl rfl (op_load_lb [one (intVP .u32 a_0.f_Home)] [bytesCk 32 a_0.f_Old] [bytesCk 32 a_0.f_New, one (intVP .i64 a_0.f_Sig.f_Index), one (slVP (dC 32) a_0.f_Sig.f_Parts), one (slVP (dC 32) a_0.f_Sig.f_Others), one (slVP (dC 32) a_0.f_Sig.f_Path)] 1 Tryd.isAgg23 Tryd.sizeOf23 q0 rfl rfl rfl)) <| oe [502, 1] [] (GOk.on_eq hb5 rfl rfl rfl (op_fieldAddr_lbm (p := (b1 1)) (n := 32) 0 1 Tryd.underlying53 rfl Tryd.sizeOf23 (by decide) q0 rfl)) <| oe [503, 500, 3] [] (GOk.on_eq hb5 rfl rfl rfl (op_load_lb [one (intVP .u32 a_1.f_Home)] [bytesCk 32 a_1.f_Old] [bytesCk 32 a_1.f_New, one (intVP .i64 a_1.f_Sig.f_Index), one (slVP (dC 32) a_1.f_Sig.f_Parts), one (slVP (dC 32) a_1.f_Sig.f_Others), one (slVP (dC 32) a_1.f_Sig.f_Path)] 1 Tryd.isAgg23 Tryd.sizeOf23 q0 rfl rfl rfl)) <| oe [504, 502, 500] [] (GOk.on_eq hb5 rfl rfl rfl (op_bin (bin_aeql Tryd.underlying23 Tryd.underlying5 Tryd.type5 Tryd.sizeOf5 Tryd.isAgg5 Tryd.eqGuardType23) q0 q1)) <| ov [505, 500] (op_pick_t hb5 q0 q1) <| ov [500] (op_move q0) <| oe [500, 0] [] (GOk.on_eq hb6 rfl rfl rfl (op_fieldAddr_lbm (p := (b1 0)) (n := 32) 0 33 Tryd.underlying53 rfl Tryd.sizeOf23 (by decide) q0 rfl)) <| oe [501, 500, 2] [] (GOk.on_eq hb6 rfl rfl rfl (op_load_lb [one (intVP .u32 a_0.f_Home), bytesCk 32 a_0.f_Old] [bytesCk 32 a_0.f_New] [one (intVP .i64 a_0.f_Sig.f_Index), one (slVP (dC 32) a_0.f_Sig.f_Parts), one (slVP (dC 32) a_0.f_Sig.f_Others), one (slVP (dC 32) a_0.f_Sig.f_Path)] 1 Tryd.isAgg23 Tryd.sizeOf23 q0 rfl rfl rfl)) <| oe [502, 1] [] (GOk.on_eq hb6 rfl rfl rfl (op_fieldAddr_lbm (p := (b1 1)) (n := 32) 0 33 Tryd.underlying53 rfl Tryd.sizeOf23 (by decide) q0 rfl)) <| oe [503, 500, 3] [] (GOk.on_eq hb6 rfl rfl rfl (op_load_lb [one (intVP .u32 a_1.f_Home), bytesCk 32 a_1.f_Old] [bytesCk 32 a_1.f_New] [one (intVP .i64 a_1.f_Sig.f_Index), one (slVP (dC 32) a_1.f_Sig.f_Parts), one (slVP (dC 32) a_1.f_Sig.f_Others), one (slVP (dC 32) a_1.f_Sig.f_Path)] 1 Tryd.isAgg23 Tryd.sizeOf23 q0 rfl rfl rfl)) <| oe [504, 502, 500] [] (GOk.on_eq hb6 rfl rfl rfl (op_bin (bin_aeql Tryd.underlying23 Tryd.underlying5 Tryd.type5 Tryd.sizeOf5 Tryd.isAgg5 Tryd.eqGuardType23) q0 q1)) <| ov [505, 500] (op_pick_t hb6 q0 q1) <| ov [500] (op_move q0) <| oe [500] [] (GOk.off_v (want := true) hb7 rfl rfl rfl rfl) <| oe [501] [] (GOk.off_v (want := true) hb7 rfl rfl rfl rfl) <| oe [502] [] (GOk.off_v (want := true) hb7 rfl rfl rfl rfl) <| oe [503] [] (GOk.off_v (want := true) hb7 rfl rfl rfl rfl) <| oe [504] [] (GOk.off_v (want := true) hb7 rfl rfl rfl rfl) <| ov [505] (op_pick_f hb7 q0 qb) <| ov [500] (op_assign q0) .nil) fun _ a w h => ?_
          exact ⟨false, hF, h.sub [0] (by rfl)⟩
      · replace hF := ff_of hb6 hF
        refine reg mixed hn hG h [500] (ov [0] (op_fieldAddr_lbm (p := (b1 0)) (n := 1) 0 0 Tryd.underlying53 rfl Tryd.sizeOf51 (by decide) q0 rfl) <| ov [500, 2] (op_load_lb1 [] [bytesCk 32 a_0.f_Old, bytesCk 32 a_0.f_New, one (intVP .i64 a_0.f_Sig.f_Index), one (slVP (dC 32) a_0.f_Sig.f_Parts), one (slVP (dC 32) a_0.f_Sig.f_Others), one (slVP (dC 32) a_0.f_Sig.f_Path)] 1 Tryd.isAgg51 q0 rfl rfl) <| ov [1] (op_fieldAddr_lbm (p := (b1 1)) (n := 1) 0 0 Tryd.underlying53 rfl Tryd.sizeOf51 (by decide) q0 rfl) <| ov [500, 3] (op_load_lb1 [] [bytesCk 32 a_1.f_Old, bytesCk 32 a_1.f_New, one (intVP .i64 a_1.f_Sig.f_Index), one (slVP (dC 32) a_1.f_Sig.f_Parts), one (slVP (dC 32) a_1.f_Sig.f_Others), one (slVP (dC 32) a_1.f_Sig.f_Path)] 1 Tryd.isAgg51 q0 rfl rfl) <| ov [502, 500] (op_bin bin_eql q0 q1) <| ov [500] (op_move q0) <| oe [500, 0] [] (GOk.on_eq hb5 rfl rfl rfl (op_fieldAddr_lbm (p := (b1 0)) (n := 32) 0 1 Tryd.underlying53 rfl Tryd.sizeOf23 (by decide) q0 rfl)) <| oe [501, 500, 2] [] (GOk.on_eq hb5 rfl rfl rfl (op_load_lb [one (intVP .u32 a_0.f_Home)] [bytesCk 32 a_0.f_Old] [bytesCk 32 a_0.f_New, one (intVP .i64 a_0.f_Sig.f_Index), one (slVP (dC 32) a_0.f_Sig.f_Parts), one (slVP (dC 32) a_0.f_Sig.f_Others), one (slVP (dC 32) a_0.f_Sig.f_Path)] 1 Tryd.isAgg23 Tryd.sizeOf23 q0 rfl rfl rfl)) <| oe [502, 1] [] (GOk.on_eq hb5 rfl rfl rfl (op_fieldAddr_lbm (p := (b1 1)) (n := 32) 0 1 Tryd.underlying53 rfl Tryd.sizeOf23 (by decide) q0 rfl)) <| oe [503, 500, 3] [] (GOk.on_eq hb5 rfl rfl rfl (op_load_lb [one (intVP .u32 a_1.f_Home)] [bytesCk 32 a_1.f_Old] [bytesCk 32 a_1.f_New, one (intVP .i64 a_1.f_Sig.f_Index), one (slVP (dC 32) a_1.f_Sig.f_Parts), one (slVP (dC 32) a_1.f_Sig.f_Others), one (slVP (dC 32) a_1.f_Sig.f_Path)] 1 Tryd.isAgg23 Tryd.sizeOf23 q0 rfl rfl rfl)) <| oe [504, 502, 500] [] (GOk.on_eq hb5 rfl rfl rfl (op_bin (bin_aeql Tryd.underlying23 Tryd.underlying5 Tryd.type5 Tryd.sizeOf5 Tryd.isAgg5 Tryd.eqGuardType23) q0 q1)) <| ov [505, 500] (op_pick_t hb5 q0 q1) <| ov [500] (op_move q0) <| oe [500] [] (GOk.off_v (want := true) hb6 rfl rfl rfl rfl) <| oe [501] [] (GOk.off_v (want := true) hb6 rfl rfl rfl rfl) <| oe [502] [] (GOk.off_v (want := true) hb6 rfl rfl rfl rfl) <| oe [503] [] (GOk.off_v (want := true) hb6 rfl rfl rfl rfl) <| oe [504] [] (GOk.off_v (want := true) hb6 rfl rfl rfl rfl) <| ov [505] (op_pick_f hb6 q0 qb) <| ov [500] (op_move q0) <| oe [500] [] (GOk.off_v (want := true) rfl rfl rfl rfl rfl) <| oe [501] [] (GOk.off_v (want := true) rfl rfl rfl rfl rfl) <| oe [502] [] (GOk.off_v (want := true) rfl rfl rfl rfl rfl) <| oe [503] [] (GOk.off_v (want := true) rfl rfl rfl rfl rfl) <| oe [504] [] (GOk.off_v (want := true) rfl rfl rfl rfl rfl) <| ov [505] (op_pick_f rfl q0 qb) <| ov [500] (op_assign q0) .nil) fun _ a w h => ?_
        exact ⟨false, hF, h.sub [0] (by rfl)⟩
    · replace hF := ff_of hb5 hF
      refine reg mixed hn hG h [500] (ov [0] (op_fieldAddr_lbm (p := (b1 0)) (n := 1) 0 0 Tryd.underlying53 rfl Tryd.sizeOf51 (by decide) q0 rfl) <| ov [500, 2] (op_load_lb1 [] [bytesCk 32 a_0.f_Old, bytesCk 32 a_0.f_New, one (intVP .i64 a_0.f_Sig.f_Index), one (slVP (dC 32) a_0.f_Sig.f_Parts), one (slVP (dC 32) a_0.f_Sig.f_Others), one (slVP (dC 32) a_0.f_Sig.f_Path)] 1 Tryd.isAgg51 q0 rfl rfl) <| ov [1] (op_fieldAddr_lbm (p := (b1 1)) (n := 1) 0 0 Tryd.underlying53 rfl Tryd.sizeOf51 (by decide) q0 rfl) <| ov [500, 3] (op_load_lb1 [] [bytesCk 32 a_1.f_Old, bytesCk 32 a_1.f_New, one (intVP .i64 a_1.f_Sig.f_Index), one (slVP (dC 32) a_1.f_Sig.f_Parts), one (slVP (dC 32) a_1.f_Sig.f_Others), one (slVP (dC 32) a_1.f_Sig.f_Path)] 1 Tryd.isAgg51 q0 rfl rfl) <| ov [502, 500] (op_bin bin_eql q0 q1) <| ov [500] (op_move q0) <| oe [500] [] (GOk.off_v (want := true) hb5 rfl rfl rfl rfl) <| oe [501] [] (GOk.off_v (want := true) hb5 rfl rfl rfl rfl) <| oe [502] [] (GOk.off_v (want := true) hb5 rfl rfl rfl rfl) <| oe [503] [] (GOk.off_v (want := true) hb5 rfl rfl rfl rfl) <| oe [504] [] (GOk.off_v (want := true) hb5 rfl rfl rfl rfl) <| ov [505] (op_pick_f hb5 q0 qb) <| ov [500] (op_move q0) <| oe [500] [] (GOk.off_v (want := true) rfl rfl rfl rfl rfl) <| oe [501] [] (GOk.off_v (want := true) rfl rfl rfl rfl rfl) <| oe [502] [] (GOk.off_v (want := true) rfl rfl rfl rfl rfl) <| oe [503] [] (GOk.off_v (want := true) rfl rfl rfl rfl rfl) <| oe [504] [] (GOk.off_v (want := true) rfl rfl rfl rfl rfl) <| ov [505] (op_pick_f rfl q0 qb) <| ov [500] (op_move q0) <| oe [500] [] (GOk.off_v (want := true) rfl rfl rfl rfl rfl) <| oe [501] [] (GOk.off_v (want := true) rfl rfl rfl rfl rfl) <| oe [502] [] (GOk.off_v (want := true) rfl rfl rfl rfl rfl) <| oe [503] [] (GOk.off_v (want := true) rfl rfl rfl rfl rfl) <| oe [504] [] (GOk.off_v (want := true) rfl rfl rfl rfl rfl) <| ov [505] (op_pick_f rfl q0 qb) <| ov [500] (op_assign q0) .nil) fun _ a w h => ?_
      exact ⟨false, hF, h.sub [0] (by rfl)⟩
  · clear h hF
    rintro a w ⟨x4, hF, h⟩
    unfold ref10_Same.j1 at hF
    show Code.wp Tryd.prog _ _ a w
    refine wp_ret ?_
    obtain rfl := Option.some.inj hF
    exact ⟨.inl rfl, ret1 h Tryd.results46 (r_tmp 0 rfl) [] [] rfl rfl rfl⟩

def ref10_SameStop.j1 (x4 : Bool) : Option Bool := some x4
def ref10_SameStop (a_0 : S_api_Stop) (a_1 : S_api_Stop) : Option Bool := (if (decide (a_0.f_Home = a_1.f_Home)) = true then (if (decide (a_0.f_Key = a_1.f_Key)) = true then (if (decide (a_0.f_Watcher = a_1.f_Watcher)) = true then ((ref03_SameSig a_0.f_Sig a_1.f_Sig).bind fun r3 => ref10_SameStop.j1 r3) else ref10_SameStop.j1 false) else ref10_SameStop.j1 false) else ref10_SameStop.j1 false)
theorem ref10_SameStop_ok {a_0 : S_api_Stop} {a_1 : S_api_Stop} {r : Bool} (hF : ref10_SameStop a_0 a_1 = some r) : CallOk Tryd.prog KG 47 [(aggVP [one (intVP .u32 a_0.f_Home), bytesCk 32 a_0.f_Key, one (intVP .i64 a_0.f_Watcher), one (intVP .i64 a_0.f_Sig.f_Index), one (slVP (dC 32) a_0.f_Sig.f_Parts), one (slVP (dC 32) a_0.f_Sig.f_Others), one (slVP (dC 32) a_0.f_Sig.f_Path)]), (aggVP [one (intVP .u32 a_1.f_Home), bytesCk 32 a_1.f_Key, one (intVP .i64 a_1.f_Watcher), one (intVP .i64 a_1.f_Sig.f_Index), one (slVP (dC 32) a_1.f_Sig.f_Parts), one (slVP (dC 32) a_1.f_Sig.f_Others), one (slVP (dC 32) a_1.f_Sig.f_Path)])] [] (fun _ => []) (boolVP r) := by
  refine CallOk.intro 31 Tryd.func47 rfl Tryd.ntmps47 (Nat.le_of_ble_eq_true rfl) ?_
  intro c a w hG hn h
  unfold ref10_SameStop at hF
  change SatL c [.slot 0 (aggVP [one (intVP .u32 a_0.f_Home), bytesCk 32 a_0.f_Key, one (intVP .i64 a_0.f_Watcher), one (intVP .i64 a_0.f_Sig.f_Index), one (slVP (dC 32) a_0.f_Sig.f_Parts), one (slVP (dC 32) a_0.f_Sig.f_Others), one (slVP (dC 32) a_0.f_Sig.f_Path)]), .slot 1 (aggVP [one (intVP .u32 a_1.f_Home), bytesCk 32 a_1.f_Key, one (intVP .i64 a_1.f_Watcher), one (intVP .i64 a_1.f_Sig.f_Index), one (slVP (dC 32) a_1.f_Sig.f_Parts), one (slVP (dC 32) a_1.f_Sig.f_Others), one (slVP (dC 32) a_1.f_Sig.f_Path)])] a w at h
  refine regS mixed hn hG h [504, 502, 503, 501] (ob [0] (op_box q0 (cells_agg _)) <| ob [1] (op_box q0 (cells_agg _)) <| ov [] (op_assign qb) .nil) fun b1 a w h => ?_
  refine wp_seq ?_
  refine wp_cut (fun a w => ∃ (x4 : Bool), ref10_SameStop.j1 x4 = some r ∧ SatL c [.slot 4 (boolVP x4)] a w) ?_ ?_
  · rcases Bool.eq_false_or_eq_true (decide (a_0.f_Home = a_1.f_Home)) with hb5 | hb5
    · replace hF := tt_of hb5 hF
      rcases Bool.eq_false_or_eq_true (decide (a_0.f_Key = a_1.f_Key)) with hb6 | hb6
      · replace hF := tt_of hb6 hF
        rcases Bool.eq_false_or_eq_true (decide (a_0.f_Watcher = a_1.f_Watcher)) with hb7 | hb7
        · replace hF := tt_of hb7 hF
          obtain ⟨r3, hr3, hF⟩ := bind_some hF
          refine reg mixed hn hG h [500] (ov [0] (op_fieldAddr_lbm (p := (b1 0)) (n := 1) 0 0 Tryd.underlying74 rfl Tryd.sizeOf51 (by decide) q0 rfl) <| ov [500, 2] (op_load_lb1 [] [bytesCk 32 a_0.f_Key, one (intVP .i64 a_0.f_Watcher), one (intVP .i64 a_0.f_Sig.f_Index), one (slVP (dC 32) a_0.f_Sig.f_Parts), one (slVP (dC 32) a_0.f_Sig.f_Others), one (slVP (dC 32) a_0.f_Sig.f_Path)] 1 Tryd.isAgg51 q0 rfl rfl) <| ov [1] (op_fieldAddr_lbm (p := (b1 1)) (n := 1) 0 0 Tryd.underlying74 rfl Tryd.sizeOf51 (by decide) q0 rfl) <| ov [500, 3] (op_load_lb1 [] [bytesCk 32 a_1.f_Key, one (intVP .i64 a_1.f_Watcher), one (intVP .i64 a_1.f_Sig.f_Index), one (slVP (dC 32) a_1.f_Sig.f_Parts), one (slVP (dC 32) a_1.f_Sig.f_Others), one (slVP (dC 32) a_1.f_Sig.f_Path)] 1 Tryd.isAgg51 q0 rfl rfl) <| ov [502, 500] (op_bin bin_eql q0 q1) <| ov [500] (op_move q0) <| oe [500, 0] [] (GOk.on_eq hb5 rfl rfl rfl (op_fieldAddr_lbm (p := (b1 0)) (n := 32) 0 1 Tryd.underlying74 rfl Tryd.sizeOf23 (by decide) q0 rfl)) <| oe [501, 500, 2] [] (GOk.on_eq hb5 rfl rfl rfl (op_load_lb [one (intVP .u32 a_0.f_Home)] [bytesCk 32 a_0.f_Key] [one (intVP .i64 a_0.f_Watcher), one (intVP .i64 a_0.f_Sig.f_Index), one (slVP (dC 32) a_0.f_Sig.f_Parts), one (slVP (dC 32) a_0.f_Sig.f_Others), one (slVP (dC 32) a_0.f_Sig.f_Path)] 1 Tryd.isAgg23 Tryd.sizeOf23 q0 rfl rfl rfl)) <| oe [502, 1] [] (GOk.on_eq hb5 rfl rfl rfl (op_fieldAddr_lbm (p := (b1 1)) (n := 32) 0 1 Tryd.underlying74 rfl Tryd.sizeOf23 (by decide) q0 rfl)) <| oe [503, 500, 3] [] (GOk.on_eq hb5 rfl rfl rfl (op_load_lb [one (intVP .u32 a_1.f_Home)] [bytesCk 32 a_1.f_Key] [one (intVP .i64 a_1.f_Watcher), one (intVP .i64 a_1.f_Sig.f_Index), one (slVP (dC 32) a_1.f_Sig.f_Parts), one (slVP (dC 32) a_1.f_Sig.f_Others), one (slVP (dC 32) a_1.f_Sig.f_Path)] 1 Tryd.isAgg23 Tryd.sizeOf23 q0 rfl rfl rfl)) <| oe [504, 502, 500] [] (GOk.on_eq hb5 rfl rfl rfl (op_bin (bin_aeql Tryd.underlying23 Tryd.underlying5 Tryd.type5 Tryd.sizeOf5 Tryd.isAgg5 Tryd.eqGuardType23) q0 q1)) <| ov [505, 500] (op_pick_t hb5 q0 q1) <| ov [500] (op_move q0) <| oe [500, 0] [] (GOk.on_eq hb6 rfl rfl rfl (op_fieldAddr_lbm (p := (b1 0)) (n := 1) 0 33 Tryd.underlying74 rfl Tryd.sizeOf3 (by decide) q0 rfl)) <| oe [501, 500, 2] [] (GOk.on_eq hb6 rfl rfl rfl (op_load_lb1 [one (intVP .u32 a_0.f_Home), bytesCk 32 a_0.f_Key] [one (intVP .i64 a_0.f_Sig.f_Index), one (slVP (dC 32) a_0.f_Sig.f_Parts), one (slVP (dC 32) a_0.f_Sig.f_Others), one (slVP (dC 32) a_0.f_Sig.f_Path)] 1 Tryd.isAgg3 q0 rfl rfl)) <| oe [502, 1] [] (GOk.on_eq hb6 rfl rfl rfl (op_fieldAddr_lbm (p := (b1 1)) (n := 1) 0 33 Tryd.underlying74 rfl Tryd.sizeOf3 (by decide) q0 rfl)) <| oe [503, 500, 3] [] (GOk.on_eq hb6 rfl rfl rfl (op_load_lb1 [one (intVP .u32 a_1.f_Home), bytesCk 32 a_1.f_Key] [one (intVP .i64 a_1.f_Sig.f_Index), one (slVP (dC 32) a_1.f_Sig.f_Parts), one (slVP (dC 32) a_1.f_Sig.f_Others), one (slVP (dC 32) a_1.f_Sig.f_Path)] 1 Tryd.isAgg3 q0 rfl rfl)) <| oe [504, 502, 500] [] (GOk.on_eq hb6 rfl rfl rfl (op_bin bin_eql q0 q1)) <| ov [505, 500] (op_pick_t hb6 q0 q1) <| ov [500] (op_move q0) <| oe [500, 0] [] (GOk.on_eq hb7 rfl rfl rfl (op_fieldAddr_lbm (p := (b1 0)) (n := 4) 0 34 Tryd.underlying74 rfl Tryd.sizeOf31 (by decide) q0 rfl)) <| oe [501, 500, 2] [] (GOk.on_eq hb7 rfl rfl rfl (op_load_lb [one (intVP .u32 a_0.f_Home), bytesCk 32 a_0.f_Key, one (intVP .i64 a_0.f_Watcher)] [one (intVP .i64 a_0.f_Sig.f_Index), one (slVP (dC 32) a_0.f_Sig.f_Parts), one (slVP (dC 32) a_0.f_Sig.f_Others), one (slVP (dC 32) a_0.f_Sig.f_Path)] [] 1 Tryd.isAgg31 Tryd.sizeOf31 q0 rfl rfl rfl)) <| oe [502, 1] [] (GOk.on_eq hb7 rfl rfl rfl (op_fieldAddr_lbm (p := (b1 1)) (n := 4) 0 34 Tryd.underlying74 rfl Tryd.sizeOf31 (by decide) q0 rfl)) <| oe [503, 500, 3] [] (GOk.on_eq hb7 rfl rfl rfl (op_load_lb [one (intVP .u32 a_1.f_Home), bytesCk 32 a_1.f_Key, one (intVP .i64 a_1.f_Watcher)] [one (intVP .i64 a_1.f_Sig.f_Index), one (slVP (dC 32) a_1.f_Sig.f_Parts), one (slVP (dC 32) a_1.f_Sig.f_Others), one (slVP (dC 32) a_1.f_Sig.f_Path)] [] 1 Tryd.isAgg31 Tryd.sizeOf31 q0 rfl rfl rfl)) <| oe [504, 502, 500] [] (GOk.on_eq hb7 rfl rfl rfl (op_call Tryd.call18 (ref03_SameSig_ok hr3) ⟨q0, q1, trivial⟩)) <| ov [505, 500] (op_pick_t hb7 q0 q1) <| ov [500] (op_assign q0) .nil) fun _ a w h => ?_
          exact ⟨r3, hF, h.sub [0] (by rfl)⟩
        · replace hF := ff_of hb7 hF
          refine reg mixed hn hG h [500] (ov [0] (op_fieldAddr_lbm (p := (b1 0)) (n := 1) 0 0 Tryd.underlying74 rfl Tryd.sizeOf51 (by decide) q0 rfl) <| ov [500, 2] (op_load_lb1 [] [bytesCk 32 a_0.f_Key, one (intVP .i64 a_0.f_Watcher), one (intVP .i64 a_0.f_Sig.f_Index), one (slVP (dC 32) a_0.f_Sig.f_Parts), one (slVP (dC 32) a_0.f_Sig.f_Others), one (slVP (dC 32) a_0.f_Sig.f_Path)] 1 Tryd.isAgg51 q0 rfl rfl) <| ov [1] (op_fieldAddr_lbm (p := (b1 1)) (n := 1) 0 0 Tryd.underlying74 rfl Tryd.sizeOf51 (by decide) q0 rfl) <| ov [500, 3] (op_load_lb1 [] [bytesCk 32 a_1.f_Key, one (intVP .i64 a_1.f_Watcher), one (intVP .i64 a_1.f_Sig.f_Index), one (slVP (dC 32) a_1.f_Sig.f_Parts), one (slVP (dC 32) a_1.f_Sig.f_Others), one (slVP (dC 32) a_1.f_Sig.f_Path)] 1 Tryd.isAgg51 q0 rfl rfl) <| ov [502, 500] (op_bin bin_eql q0 q1) <| ov [500] (op_move q0) <| oe [500, 0] [] (GOk.on_eq hb5 rfl rfl rfl (op_fieldAddr_lbm (p := (b1 0)) (n := 32) 0 1 Tryd.underlying74 rfl Tryd.sizeOf23 (by decide) q0 rfl)) <| oe [501, 500, 2] [] (GOk.on_eq hb5 rfl rfl rfl (op_load_lb [one (intVP .u32 a_0.f_Home)] [bytesCk 32 a_0.f_Key] [one (intVP .i64 a_0.f_Watcher), one (intVP .i64 a_0.f_Sig.f_Index), one (slVP (dC 32) a_0.f_Sig.f_Parts), one (slVP (dC 32) a_0.f_Sig.f_Others), one (slVP (dC 32) a_0.f_Sig.f_Path)] 1 Tryd.isAgg23 Tryd.sizeOf23 q0 rfl rfl rfl)) <| oe [502, 1] [] (GOk.on_eq hb5 rfl rfl rfl (op_fieldAddr_lbm (p := (b1 1)) (n := 32) 0 1 Tryd.underlying74 rfl Tryd.sizeOf23 (by decide) q0 rfl)) <| oe [503, 500, 3] [] (GOk.on_eq hb5 rfl rfl rfl (op_load_lb [one (intVP .u32 a_1.f_Home)] [bytesCk 32 a_1.f_Key] [one (intVP .i64 a_1.f_Watcher), one (intVP .i64 a_1.f_Sig.f_Index), one (slVP (dC 32) a_1.f_Sig.f_Parts), one (slVP (dC 32) a_1.f_Sig.f_Others), one (slVP (dC 32) a_1.f_Sig.f_Path)] 1 Tryd.isAgg23 Tryd.sizeOf23 q0 rfl rfl rfl)) <| oe [504, 502, 500] [] (GOk.on_eq hb5 rfl rfl rfl (op_bin (bin_aeql Tryd.underlying23 Tryd.underlying5 Tryd.type5 Tryd.sizeOf5 Tryd.isAgg5 Tryd.eqGuardType23) q0 q1)) <| ov [505, 500] (op_pick_t hb5 q0 q1) <| ov [500] (op_move q0) <| oe [500, 0] [] (GOk.on_eq hb6 rfl rfl rfl (op_fieldAddr_lbm (p := (b1 0)) (n := 1) 0 33 Tryd.underlying74 rfl Tryd.sizeOf3 (by decide) q0 rfl)) <| oe [501, 500, 2] [] (GOk.on_eq hb6 rfl rfl rfl (op_load_lb1 [one (intVP .u32 a_0.f_Home), bytesCk 32 a_0.f_Key] [one (intVP .i64 a_0.f_Sig.f_Index), one (slVP (dC 32) a_0.f_Sig.f_Parts), one (slVP (dC 32) a_0.f_Sig.f_Others), one (slVP (dC 32) a_0.f_Sig.f_Path)] 1 Tryd.isAgg3 q0 rfl rfl)) <| oe [502, 1] [] (GOk.on_eq hb6 rfl rfl rfl (op_fieldAddr_lbm (p := (b1 1)) (n := 1) 0 33 Tryd.underlying74 rfl Tryd.sizeOf3 (by decide) q0 rfl)) <| oe [503, 500, 3] [] (GOk.on_eq hb6 rfl rfl rfl (op_load_lb1 [one (intVP .u32 a_1.f_Home), bytesCk 32 a_1.f_Key] [one (intVP .i64 a_1.f_Sig.f_Index), one (slVP (dC 32) a_1.f_Sig.f_Parts), one (slVP (dC 32) a_1.f_Sig.f_Others), one (slVP (dC 32) a_1.f_Sig.f_Path)] 1 Tryd.isAgg3 q0 rfl rfl)) <| oe [504, 502, 500] [] (GOk.on_eq hb6 rfl rfl rfl (op_bin bin_eql q0 q1)) <| ov [505, 500] (op_pick_t hb6 q0 q1) <| ov [500] (op_move q0) <| oe [500] [] (GOk.off_v (want := true) hb7 rfl rfl rfl rfl) <| oe [501] [] (GOk.off_v (want := true) hb7 rfl rfl rfl rfl) <| oe [502] [] (GOk.off_v (want := true) hb7 rfl rfl rfl rfl) <| oe [503] [] (GOk.off_v (want := true) hb7 rfl rfl rfl rfl) <| oe [504] [] (GOk.off_v (want := true) hb7 rfl rfl rfl rfl) <| ov [505] (op_pick_f hb7 q0 qb) <| ov [500] (op_assign q0) .nil) fun _ a w h => ?_
          exact ⟨false, hF, h.sub [0] (by rfl)⟩
      · replace hF := ff_of hb6 hF
        refine reg mixed hn hG h [500] (ov [0] (op_fieldAddr_lbm (p := (b1 0)) (n := 1) 0 0 Tryd.underlying74 rfl Tryd.sizeOf51 (by decide) q0 rfl) <| ov [500, 2] (op_load_lb1 [] [bytesCk 32 a_0.f_Key, one (intVP .i64 a_0.f_Watcher), one (intVP .i64 a_0.f_Sig.f_Index), one (slVP (dC 32) a_0.f_Sig.f_Parts), one (slVP (dC 32) a_0.f_Sig.f_Others), one (slVP (dC 32) a_0.f_Sig.f_Path)] 1 Tryd.isAgg51 q0 rfl rfl) <| ov [1] (op_fieldAddr_lbm (p := (b1 1)) (n := 1) 0 0 Tryd.underlying74 rfl Tryd.sizeOf51 (by decide) q0 rfl) <| ov [500, 3] (op_load_lb1 [] [bytesCk 32 a_1.f_Key, one (intVP .i64 a_1.f_Watcher), one (intVP .i64 a_1.f_Sig.f_Index), one (slVP (dC 32) a_1.f_Sig.f_Parts), one (slVP (dC 32) a_1.f_Sig.f_Others), one (slVP (dC 32) a_1.f_Sig.f_Path)] 1 Tryd.isAgg51 q0 rfl rfl) <| ov [502, 500] (op_bin bin_eql q0 q1) <| ov [500] (op_move q0) <| oe [500, 0] [] (GOk.on_eq hb5 rfl rfl rfl (op_fieldAddr_lbm (p := (b1 0)) (n := 32) 0 1 Tryd.underlying74 rfl Tryd.sizeOf23 (by decide) q0 rfl)) <| oe [501, 500, 2] [] (GOk.on_eq hb5 rfl rfl rfl (op_load_lb [one (intVP .u32 a_0.f_Home)] [bytesCk 32 a_0.f_Key] [one (intVP .i64 a_0.f_Watcher), one (intVP .i64 a_0.f_Sig.f_Index), one (slVP (dC 32) a_0.f_Sig.f_Parts), one (slVP (dC 32) a_0.f_Sig.f_Others), one (slVP (dC 32) a_0.f_Sig.f_Path)] 1 Tryd.isAgg23 Tryd.sizeOf23 q0 rfl rfl rfl)) <| oe [502, 1] [] (GOk.on_eq hb5 rfl rfl rfl (op_fieldAddr_lbm (p := (b1 1)) (n := 32) 0 1 Tryd.underlying74 rfl Tryd.sizeOf23 (by decide) q0 rfl)) <| oe [503, 500, 3] [] (GOk.on_eq hb5 rfl rfl rfl (op_load_lb [one (intVP .u32 a_1.f_Home)] [bytesCk 32 a_1.f_Key] [one (intVP .i64 a_1.f_Watcher), one (intVP .i64 a_1.f_Sig.f_Index), one (slVP (dC 32) a_1.f_Sig.f_Parts), one (slVP (dC 32) a_1.f_Sig.f_Others), one (slVP (dC 32) a_1.f_Sig.f_Path)] 1 Tryd.isAgg23 Tryd.sizeOf23 q0 rfl rfl rfl)) <| oe [504, 502, 500] [] (GOk.on_eq hb5 rfl rfl rfl (op_bin (bin_aeql Tryd.underlying23 Tryd.underlying5 Tryd.type5 Tryd.sizeOf5 Tryd.isAgg5 Tryd.eqGuardType23) q0 q1)) <| ov [505, 500] (op_pick_t hb5 q0 q1) <| ov [500] (op_move q0) <| oe [500] [] (GOk.off_v (want := true) hb6 rfl rfl rfl rfl) <| oe [501] [] (GOk.off_v (want := true) hb6 rfl rfl rfl rfl) <| oe [502] [] (GOk.off_v (want := true) hb6 rfl rfl rfl rfl) <| oe [503] [] (GOk.off_v (want := true) hb6 rfl rfl rfl rfl) <| oe [504] [] (GOk.off_v (want := true) hb6 rfl rfl rfl rfl) <| ov [505] (op_pick_f hb6 q0 qb) <| ov [500] (op_move q0) <| oe [500] [] (GOk.off_v (want := true) rfl rfl rfl rfl rfl) <| oe [501] [] (GOk.off_v (want := true) rfl rfl rfl rfl rfl) <| oe [502] [] (GOk.off_v (want := true) rfl rfl rfl rfl rfl) <| oe [503] [] (GOk.off_v (want := true) rfl rfl rfl rfl rfl) <| oe [504] [] (GOk.off_v (want := true) rfl rfl rfl rfl rfl) <| ov [505] (op_pick_f rfl q0 qb) <| ov [500] (op_assign q0) .nil) fun _ a w h => ?_
        exact ⟨false, hF, h.sub [0] (by rfl)⟩
    · replace hF := ff_of hb5 hF
      refine reg mixed hn hG h [500] (ov [0] (op_fieldAddr_lbm (p := (b1 0)) (n := 1) 0 0 Tryd.underlying74 rfl Tryd.sizeOf51 (by decide) q0 rfl) <| ov [500, 2] (op_load_lb1 [] [bytesCk 32 a_0.f_Key, one (intVP .i64 a_0.f_Watcher), one (intVP .i64 a_0.f_Sig.f_Index), one (slVP (dC 32) a_0.f_Sig.f_Parts), one (slVP (dC 32) a_0.f_Sig.f_Others), one (slVP (dC 32) a_0.f_Sig.f_Path)] 1 Tryd.isAgg51 q0 rfl rfl) <| ov [1] (op_fieldAddr_lbm (p := (b1 1)) (n := 1) 0 0 Tryd.underlying74 rfl Tryd.sizeOf51 (by decide) q0 rfl) <| ov [500, 3] (op_load_lb1 [] [bytesCk 32 a_1.f_Key, one (intVP .i64 a_1.f_Watcher), one (intVP .i64 a_1.f_Sig.f_Index), one (slVP (dC 32) a_1.f_Sig.f_Parts), one (slVP (dC 32) a_1.f_Sig.f_Others), one (slVP (dC 32) a_1.f_Sig.f_Path)] 1 Tryd.isAgg51 q0 rfl rfl) <| ov [502, 500] (op_bin bin_eql q0 q1) <| ov [500] (op_move q0) <| oe [500] [] (GOk.off_v (want := true) hb5 rfl rfl rfl rfl) <| oe [501] [] (GOk.off_v (want := true) hb5 rfl rfl rfl rfl) <| oe [502] [] (GOk.off_v (want := true) hb5 rfl rfl rfl rfl) <| oe [503] [] (GOk.off_v (want := true) hb5 rfl rfl rfl rfl) <| oe [504] [] (GOk.off_v (want := true) hb5 rfl rfl rfl rfl) <| ov [505] (op_pick_f hb5 q0 qb) <| ov [500] (op_move q0) <| oe [500] [] (GOk.off_v (want := true) rfl rfl rfl rfl rfl) <| oe [501] [] (GOk.off_v (want := true) rfl rfl rfl rfl rfl) <| oe [502] [] (GOk.off_v (want := true) rfl rfl rfl rfl rfl) <| oe [503] [] (GOk.off_v (want := true) rfl rfl rfl rfl rfl) <| oe [504] [] (GOk.off_v (want := true) rfl rfl rfl rfl rfl) <| ov [505] (op_pick_f rfl q0 qb) <| ov [500] (op_move q0) <| oe [500] [] (GOk.off_v (want := true) rfl rfl rfl rfl rfl) <| oe [501] [] (GOk.off_v (want := true) rfl rfl rfl rfl rfl) <| oe [502] [] (GOk.off_v (want := true) rfl rfl rfl rfl rfl) <| oe [503] [] (GOk.off_v (want := true) rfl rfl rfl rfl rfl) <| oe [504] [] (GOk.off_v (want := true) rfl rfl rfl rfl rfl) <| ov [505] (op_pick_f rfl q0 qb) <| ov [500] (op_assign q0) .nil) fun _ a w h => ?_
      exact ⟨false, hF, h.sub [0] (by rfl)⟩
  · clear h hF
    rintro a w ⟨x4, hF, h⟩
    unfold ref10_SameStop.j1 at hF
    show Code.wp Tryd.prog _ _ a w
    refine wp_ret ?_
    obtain rfl := Option.some.inj hF
    exact ⟨.inl rfl, ret1 h Tryd.results47 (r_tmp 0 rfl) [] [] rfl rfl rfl⟩
end Go.Proofs.YtamnmljgcmbliaaDoor
