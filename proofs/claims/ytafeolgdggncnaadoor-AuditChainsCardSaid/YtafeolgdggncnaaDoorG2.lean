/- The functions' Lean twins and contracts, printed by this session's own program: part 2. -/
import Derived.Test.YtafeolgdggncnaaDoorG1
namespace Go.Proofs.YtafeolgdggncnaaDoor
open Go Go.RowKit Go.Proofs
set_option maxRecDepth 100000
set_option maxHeartbeats 4000000
set_option linter.unusedVariables false
def slices_IndexFunc_api_Token.b1 (a_0 : List (S_api_Token)) (a_1 : ((S_api_Token)) → Option (Bool)) (x5 : Int) : Option (Flow Int Int) := (if (decide (x5 < (a_0.length : Int))) = true then (if (0 : Int) ≤ x5 ∧ x5 < a_0.length then ((a_1 (a_0.getD x5.toNat default)).bind fun r13 => (if r13 = true then some (.ret x5) else some (.cont (IntKind.wrap .i64 (x5 + 1))))) else none) else some (.brk x5))
def slices_IndexFunc_api_Token (a_0 : List (S_api_Token)) (a_1 : ((S_api_Token)) → Option (Bool)) : Option Int := ((loopN (fun s : Int => slices_IndexFunc_api_Token.b1 a_0 a_1 s) (((a_0.length : Int) - 0 : Int).toNat + 2) 0).bind fun cr => match cr with | .ret r => some r | .next y19 => some (-1 : Int))
theorem slices_IndexFunc_api_Token_ok {a_0 : List (S_api_Token)} {a_1 : ((S_api_Token)) → Option (Bool)} {r : Int} (hF : slices_IndexFunc_api_Token a_0 a_1 = some r) : CallOk Tryd.prog KG 48 [(slVP S_api_Token.ck a_0), (fnVP Tryd.prog KG (fun x : S_api_Token => [(aggVP [one (intVP .u32 x.f_Origin), one (strVP x.f_Name), one (intVP .u64 x.f_Cap), one (intVP .u64 x.f_Locked), one (intVP .u64 x.f_Unlocked), one (intVP .u64 x.f_Minted), one (intVP .u64 x.f_Burned)])]) (fun r : Bool => (boolVP r)) a_1)] [] (fun _ => []) (intVP .i64 r) := by
  refine CallOk.intro 19 Tryd.func48 rfl Tryd.ntmps48 (Nat.le_of_ble_eq_true rfl) ?_
  intro c a w hG hn h
  unfold slices_IndexFunc_api_Token at hF
  change SatL c [.slot 0 (slVP S_api_Token.ck a_0), .slot 1 (fnVP Tryd.prog KG (fun x : S_api_Token => [(aggVP [one (intVP .u32 x.f_Origin), one (strVP x.f_Name), one (intVP .u64 x.f_Cap), one (intVP .u64 x.f_Locked), one (intVP .u64 x.f_Unlocked), one (intVP .u64 x.f_Minted), one (intVP .u64 x.f_Burned)])]) (fun r : Bool => (boolVP r)) a_1)] a w at h
  refine regS mixed hn hG h [0, 1] (ov [] (op_assign qi) .nil) fun _ a w h => ?_
  refine wp_seq ?_
  refine regS mixed hn hG h [0, 1, 501, 500] (ov [0] (op_move q0) <| ov [500] (op_len_sl Tryd.underlying28 q0) <| ov [] (op_move qi) .nil) fun _ a w h => ?_
  refine wp_block ?_
  obtain ⟨cr15, hl16, hF⟩ := bind_some hF
  refine wp_mono (wp_loopN (R := Int) (S := Int) (fun s a w => SatL c [.slot 0 (slVP S_api_Token.ck a_0), .slot 1 (fnVP Tryd.prog KG (fun x : S_api_Token => [(aggVP [one (intVP .u32 x.f_Origin), one (strVP x.f_Name), one (intVP .u64 x.f_Cap), one (intVP .u64 x.f_Locked), one (intVP .u64 x.f_Unlocked), one (intVP .u64 x.f_Minted), one (intVP .u64 x.f_Burned)])]) (fun r : Bool => (boolVP r)) a_1), .slot 7 (intVP .i64 (a_0.length : Int)), .slot 8 (intVP .i64 s)] a w) (fun res e a w => match res with | .next s => e = .exit 0 ∧ SatL c [] a w | .ret r => e = .ret ∧ RetOk Tryd.prog Tryd.f48 c (intVP .i64 r) (fun _ => []) a w) ?_ _ 0 _ _ _ (h.sub [0, 1, 2, 3] (by rfl)) hl16) ?_
  · clear hl16 hF h
    intro x5 a w o h hF
    change slices_IndexFunc_api_Token.b1 a_0 a_1 x5 = some o at hF
    unfold slices_IndexFunc_api_Token.b1 at hF
    change SatL c [.slot 0 (slVP S_api_Token.ck a_0), .slot 1 (fnVP Tryd.prog KG (fun x : S_api_Token => [(aggVP [one (intVP .u32 x.f_Origin), one (strVP x.f_Name), one (intVP .u64 x.f_Cap), one (intVP .u64 x.f_Locked), one (intVP .u64 x.f_Unlocked), one (intVP .u64 x.f_Minted), one (intVP .u64 x.f_Burned)])]) (fun r : Bool => (boolVP r)) a_1), .slot 7 (intVP .i64 (a_0.length : Int)), .slot 8 (intVP .i64 x5)] a w at h
    refine regS mixed hn hG h [0, 1, 2, 3, 500] (ov [3, 2] (op_bin bin_lss q0 q1) .nil) fun _ a w h => ?_
    refine wp_seq ?_
    refine cnd h hF 4 [0, 1, 2, 3] [0, 1, 2, 3] (fun hb11 hF h => ?_) (fun hb11 hF h => ?_)
    · refine wp_skip ?_
      show Code.wp Tryd.prog _ _ a w
      refine wp_seq ?_
      refine wp_block ?_
      refine regS mixed hn hG h [0, 1, 500, 2, 3] (ov [3] (op_move q0) <| ov [500] (op_assign q0) .nil) fun _ a w h => ?_
      obtain ⟨hv12, hF⟩ := ite_some hF
      obtain ⟨r13, hr13, hF⟩ := bind_some hF
      refine regS mixed hn hG h [0, 1, 2, 3, 4, 500] (ov [1] (op_move q0) <| ov [0] (op_move q0) <| ov [2] (op_move q0) <| ov [501, 500] (op_indexAddr_sl Tryd.underlying28 Tryd.sizeOf82 S_api_Token.lens q0 q1 hv12) <| ov [500] (op_load_pp [one (intVP .u32 ((a_0.getD x5.toNat default).f_Origin)), one (strVP ((a_0.getD x5.toNat default).f_Name)), one (intVP .u64 ((a_0.getD x5.toNat default).f_Cap)), one (intVP .u64 ((a_0.getD x5.toNat default).f_Locked)), one (intVP .u64 ((a_0.getD x5.toNat default).f_Unlocked)), one (intVP .u64 ((a_0.getD x5.toNat default).f_Minted)), one (intVP .u64 ((a_0.getD x5.toNat default).f_Burned))] [] Tryd.isAgg82 Tryd.sizeOf82 q0 rfl) <| ov [504, 500] (op_callfn (A := (fun x : S_api_Token => [(aggVP [one (intVP .u32 x.f_Origin), one (strVP x.f_Name), one (intVP .u64 x.f_Cap), one (intVP .u64 x.f_Locked), one (intVP .u64 x.f_Unlocked), one (intVP .u64 x.f_Minted), one (intVP .u64 x.f_Burned)])])) (B := (fun r : Bool => (boolVP r))) (g := a_1) (x := (a_0.getD x5.toNat default)) q0 ⟨q1, trivial⟩ hr13) .nil) fun _ a w h => ?_
      refine cnd h hF 5 [2] [0, 1, 3, 4] (fun hb14 hF h => ?_) (fun hb14 hF h => ?_)
      · refine regS mixed hn hG h [500] (ov [0] (op_move q0) <| ov [500] (op_assign q0) .nil) fun _ a w h => ?_
        refine wp_ret ?_
        obtain rfl := Option.some.inj hF
        exact ⟨ret_ne, rfl, ret1 h Tryd.results48 (r_tmp 0 rfl) [] [] rfl rfl rfl⟩
      · refine wp_skip ?_
        show Code.wp Tryd.prog _ _ a w
        refine reg mixed hn hG h [0, 1, 2, 500] (ov [3] (op_bin bin_add q0 qi) <| od [500] 3 (op_move q0) .nil) fun _ a w h => ?_
        obtain rfl := Option.some.inj hF
        exact ⟨rfl, h.sub [0, 1, 2, 3] (by rfl)⟩
    · refine wp_exit ?_
      obtain rfl := Option.some.inj hF
      exact ⟨exit_ne _, rfl, h.sub [] (by rfl)⟩
  · clear hl16
    intro e a w hq
    cases cr15 with
    | ret r17 =>
      obtain ⟨rfl, hq⟩ := hq
      obtain rfl := Option.some.inj hF
      exact ⟨.inl rfl, hq⟩
    | next y19 =>
      obtain ⟨rfl, h⟩ := hq
      change SatL c [] a w at h
      refine inBlock_at ?_
      show Code.wp Tryd.prog _ _ a w
      refine regS mixed hn hG h [500] (ov [] (op_assign qi) .nil) fun _ a w h => ?_
      refine wp_ret ?_
      obtain rfl := Option.some.inj hF
      exact ⟨.inl rfl, ret1 h Tryd.results48 (r_tmp 0 rfl) [] [] rfl rfl rfl⟩

def purse_of (a_0 : S_api_Token) : Option S_purse_key := some (S_purse_key.mk a_0.f_Origin a_0.f_Name)
theorem purse_of_ok {a_0 : S_api_Token} {r : S_purse_key} (hF : purse_of a_0 = some r) : CallOk Tryd.prog KG 51 [(aggVP [one (intVP .u32 a_0.f_Origin), one (strVP a_0.f_Name), one (intVP .u64 a_0.f_Cap), one (intVP .u64 a_0.f_Locked), one (intVP .u64 a_0.f_Unlocked), one (intVP .u64 a_0.f_Minted), one (intVP .u64 a_0.f_Burned)])] [] (fun _ => []) (aggVP [one (intVP .u32 r.f_origin), one (strVP r.f_name)]) := by
  refine CallOk.intro 8 Tryd.func51 rfl Tryd.ntmps51 (Nat.le_of_ble_eq_true rfl) ?_
  intro c a w hG hn h
  unfold purse_of at hF
  change SatL c [.slot 0 (aggVP [one (intVP .u32 a_0.f_Origin), one (strVP a_0.f_Name), one (intVP .u64 a_0.f_Cap), one (intVP .u64 a_0.f_Locked), one (intVP .u64 a_0.f_Unlocked), one (intVP .u64 a_0.f_Minted), one (intVP .u64 a_0.f_Burned)])] a w at h
  refine regS mixed hn hG h [503, 501, 502, 500] (ob [0] (op_box q0 (cells_agg _)) <| ob [] (op_alloc Tryd.zeroValue104 z104) .nil) fun b1 a w h => ?_
  refine regS mixed hn hG h [1, 500] (ov [0] (op_fieldAddr_lbm (p := (b1 0)) (n := 1) 0 0 Tryd.underlying82 rfl Tryd.sizeOf22 (by decide) q0 rfl) <| ov [500, 2] (op_load_lb1 [] [one (strVP a_0.f_Name), one (intVP .u64 a_0.f_Cap), one (intVP .u64 a_0.f_Locked), one (intVP .u64 a_0.f_Unlocked), one (intVP .u64 a_0.f_Minted), one (intVP .u64 a_0.f_Burned)] 1 Tryd.isAgg22 q0 rfl rfl) <| ov [0] (op_fieldAddr_lbm (p := (b1 0)) (n := 1) 0 1 Tryd.underlying82 rfl Tryd.sizeOf9 (by decide) q0 rfl) <| ov [500, 2] (op_load_lb1 [one (intVP .u32 a_0.f_Origin)] [one (intVP .u64 a_0.f_Cap), one (intVP .u64 a_0.f_Locked), one (intVP .u64 a_0.f_Unlocked), one (intVP .u64 a_0.f_Minted), one (intVP .u64 a_0.f_Burned)] 1 Tryd.isAgg9 q0 rfl rfl) <| ov [502, 500] (op_build [(0, .tmp 4), (1, .tmp 6)] rfl bu104 z104 ⟨[], [one (intVP .u32 (0 : Int))], [one (strVP [])], [one (intVP .u32 a_0.f_Origin)], _, rfl, rfl, rfl, q0, (cells_one (one_int _ _)), ⟨[one (intVP .u32 a_0.f_Origin)], [one (strVP [])], [], [one (strVP a_0.f_Name)], _, rfl, rfl, rfl, q1, (cells_one (one_str _)), rfl⟩⟩) <| ou [1, 500] 3 (op_store_w Tryd.sizeOf104 q0 q1 (cells_agg _)) .nil) fun _ a w h => ?_
  refine wp_ret ?_
  obtain rfl := Option.some.inj hF
  exact ⟨.inl rfl, ret1 h Tryd.results51 (r_cell 0 1 rfl rfl Tryd.isAgg104 Tryd.sizeOf104 rfl) [] [] rfl rfl rfl⟩

def purse_token_1 (a_0 : S_api_Token) (c_1 : S_purse_key) : Option Bool := ((purse_of a_0).bind fun r2 => some ((decide (r2.f_origin = c_1.f_origin)) && ((decide (r2.f_name = c_1.f_name)) && true)))
theorem purse_token_1_ok {a_0 : S_api_Token} {c_1 : S_purse_key} {r : Bool} (hF : purse_token_1 a_0 c_1 = some r) : CallOk Tryd.prog KG 69 [(aggVP [one (intVP .u32 a_0.f_Origin), one (strVP a_0.f_Name), one (intVP .u64 a_0.f_Cap), one (intVP .u64 a_0.f_Locked), one (intVP .u64 a_0.f_Unlocked), one (intVP .u64 a_0.f_Minted), one (intVP .u64 a_0.f_Burned)]), (ppVP [one (intVP .u32 c_1.f_origin), one (strVP c_1.f_name)])] [] (fun _ => []) (boolVP r) := by
  refine CallOk.intro 8 Tryd.func69 rfl Tryd.ntmps69 (Nat.le_of_ble_eq_true rfl) ?_
  intro c a w hG hn h
  unfold purse_token_1 at hF
  change SatL c [.slot 0 (aggVP [one (intVP .u32 a_0.f_Origin), one (strVP a_0.f_Name), one (intVP .u64 a_0.f_Cap), one (intVP .u64 a_0.f_Locked), one (intVP .u64 a_0.f_Unlocked), one (intVP .u64 a_0.f_Minted), one (intVP .u64 a_0.f_Burned)]), .slot 1 (ppVP [one (intVP .u32 c_1.f_origin), one (strVP c_1.f_name)])] a w at h
  refine regS mixed hn hG h [1, 502, 501] (ob [0] (op_box q0 (cells_agg _)) <| ov [] (op_assign qb) .nil) fun b1 a w h => ?_
  obtain ⟨r2, hr2, hF⟩ := bind_some hF
  refine regS mixed hn hG h [500] (ov [1, 2] (op_load_w 1 Tryd.isAgg82 Tryd.sizeOf82 q0) <| oc [500] [] Tryd.call51 (purse_of_ok hr2) ⟨q0, trivial⟩ <| ov [0] (op_load_pp [one (intVP .u32 c_1.f_origin), one (strVP c_1.f_name)] [] Tryd.isAgg104 Tryd.sizeOf104 q0 rfl) <| ov [501, 500] (op_bin (bin_steql (d := 1) Tryd.underlying104 (by kernel_rfl) Tryd.eqGuardType104 (.cons (L := [one (intVP .u32 r2.f_origin)]) (M := [one (intVP .u32 c_1.f_origin)]) (by decide) rfl (eqc_int Tryd.underlying22 Tryd.isAgg22) rfl rfl (.cons (L := [one (strVP r2.f_name)]) (M := [one (strVP c_1.f_name)]) (by decide) rfl (eqc_str Tryd.underlying9 Tryd.isAgg9) rfl rfl .nil))) q0 q1) <| ov [500] (op_assign q0) .nil) fun _ a w h => ?_
  refine wp_ret ?_
  obtain rfl := Option.some.inj hF
  exact ⟨.inl rfl, ret1 h Tryd.results69 (r_tmp 0 rfl) [] [] rfl rfl rfl⟩

def purse_token (a_0 : S_api_Purse) (a_1 : S_purse_key) : Option Int := ((slices_IndexFunc_api_Token a_0.f_Tokens (fun x : S_api_Token => purse_token_1 x a_1)).bind fun r3 => some r3)
theorem purse_token_ok {a_0 : S_api_Purse} {a_1 : S_purse_key} {r : Int} (hF : purse_token a_0 a_1 = some r) : CallOk Tryd.prog KG 47 [(aggVP [one (slVP S_api_Token.ck a_0.f_Tokens), one (slVP S_api_Holding.ck a_0.f_Holdings)]), (aggVP [one (intVP .u32 a_1.f_origin), one (strVP a_1.f_name)])] [] (fun _ => []) (intVP .i64 r) := by
  refine CallOk.intro 9 Tryd.func47 rfl Tryd.ntmps47 (Nat.le_of_ble_eq_true rfl) ?_
  intro c a w hG hn h
  unfold purse_token at hF
  change SatL c [.slot 0 (aggVP [one (slVP S_api_Token.ck a_0.f_Tokens), one (slVP S_api_Holding.ck a_0.f_Holdings)]), .slot 1 (aggVP [one (intVP .u32 a_1.f_origin), one (strVP a_1.f_name)])] a w at h
  refine regS mixed hn hG h [504, 502, 503, 501] (ob [0] (op_box q0 (cells_agg _)) <| ob [1] (op_box q0 (cells_agg _)) <| ov [] (op_assign qi) .nil) fun b1 a w h => ?_
  replace h := h.publish 3 rfl
  replace h := h.factslot 1 3 rfl rfl
  replace h := h.sub [0, 1, 2] (by rfl)
  change SatL c [.slot 2 (lpVP (b1 0) 0), .slot 3 (ppVP [one (intVP .u32 a_1.f_origin), one (strVP a_1.f_name)]), .res (lb (b1 0) 31 [one (slVP S_api_Token.ck a_0.f_Tokens), one (slVP S_api_Holding.ck a_0.f_Holdings)])] a w at h
  obtain ⟨r3, hr3, hF⟩ := bind_some hF
  refine regS mixed hn hG h [500] (ov [0] (op_fieldAddr_lbm (p := (b1 0)) (n := 1) 0 0 Tryd.underlying31 rfl Tryd.sizeOf28 (by decide) q0 rfl) <| ov [500, 2] (op_load_lb1 [] [one (slVP S_api_Holding.ck a_0.f_Holdings)] 1 Tryd.isAgg28 q0 rfl rfl) <| ov [1] (op_makeFunc_pp (A := (fun x : S_api_Token => [(aggVP [one (intVP .u32 x.f_Origin), one (strVP x.f_Name), one (intVP .u64 x.f_Cap), one (intVP .u64 x.f_Locked), one (intVP .u64 x.f_Unlocked), one (intVP .u64 x.f_Minted), one (intVP .u64 x.f_Burned)])])) (B := (fun r : Bool => (boolVP r))) (g := (fun x : S_api_Token => purse_token_1 x a_1)) (Cs := [(ppVP [one (intVP .u32 a_1.f_origin), one (strVP a_1.f_name)])]) Tryd.call69 (fun x r h => purse_token_1_ok h) ⟨q0, trivial⟩) <| oc [501, 500] [] Tryd.call48 (slices_IndexFunc_api_Token_ok hr3) ⟨q0, q1, trivial⟩ <| ov [500] (op_assign q0) .nil) fun _ a w h => ?_
  refine wp_ret ?_
  obtain rfl := Option.some.inj hF
  exact ⟨.inl rfl, ret1 h Tryd.results47 (r_tmp 0 rfl) [] [] rfl rfl rfl⟩

def purse_Known (a_0 : S_api_Purse) (a_1 : Int) (a_2 : List UInt8) : Option (S_api_Token × Bool) := ((purse_token a_0 (S_purse_key.mk a_1 a_2)).bind fun r3 => (if (decide (r3 < (0 : Int))) = true then some ((S_api_Token.mk (0 : Int) [] (0 : Int) (0 : Int) (0 : Int) (0 : Int) (0 : Int)), false) else (if (0 : Int) ≤ r3 ∧ r3 < a_0.f_Tokens.length then some (a_0.f_Tokens.getD r3.toNat default, true) else none)))
theorem purse_Known_ok {a_0 : S_api_Purse} {a_1 : Int} {a_2 : List UInt8} {r : S_api_Token × Bool} (hF : purse_Known a_0 a_1 a_2 = some r) : CallOk Tryd.prog KG 57 [(aggVP [one (slVP S_api_Token.ck a_0.f_Tokens), one (slVP S_api_Holding.ck a_0.f_Holdings)]), (intVP .u32 a_1), (strVP a_2)] [] (fun _ => []) (tupVP [(aggVP [one (intVP .u32 r.1.f_Origin), one (strVP r.1.f_Name), one (intVP .u64 r.1.f_Cap), one (intVP .u64 r.1.f_Locked), one (intVP .u64 r.1.f_Unlocked), one (intVP .u64 r.1.f_Minted), one (intVP .u64 r.1.f_Burned)]), (boolVP r.2)]) := by
  refine CallOk.intro 22 Tryd.func57 rfl Tryd.ntmps57 (Nat.le_of_ble_eq_true rfl) ?_
  intro c a w hG hn h
  unfold purse_Known at hF
  change SatL c [.slot 0 (aggVP [one (slVP S_api_Token.ck a_0.f_Tokens), one (slVP S_api_Holding.ck a_0.f_Holdings)]), .slot 1 (intVP .u32 a_1), .slot 2 (strVP a_2)] a w at h
  refine regS mixed hn hG h [1, 2, 504, 502, 503, 501] (ob [0] (op_box q0 (cells_agg _)) <| ob [] (op_alloc Tryd.zeroValue82 z82) <| ov [] (op_assign qb) .nil) fun b1 a w h => ?_
  obtain ⟨r3, hr3, hF⟩ := bind_some hF
  refine regS mixed hn hG h [2, 3, 500, 4, 5] (ov [2, 4] (op_load_w 1 Tryd.isAgg31 Tryd.sizeOf31 q0) <| ov [0] (op_move q0) <| ov [1] (op_move q0) <| ov [501, 500] (op_build [(0, .tmp 10), (1, .tmp 11)] rfl bu104 z104 ⟨[], [one (intVP .u32 (0 : Int))], [one (strVP [])], [one (intVP .u32 a_1)], _, rfl, rfl, rfl, q0, (cells_one (one_int _ _)), ⟨[one (intVP .u32 a_1)], [one (strVP [])], [], [one (strVP a_2)], _, rfl, rfl, rfl, q1, (cells_one (one_str _)), rfl⟩⟩) <| oc [503, 500] [] Tryd.call47 (purse_token_ok hr3) ⟨q0, q1, trivial⟩ <| ov [500] (op_assign q0) .nil) fun _ a w h => ?_
  refine wp_seq ?_
  refine regS mixed hn hG h [0, 1, 2, 500, 3, 4] (ov [2] (op_move q0) <| ov [500] (op_bin bin_lss q0 qi) .nil) fun _ a w h => ?_
  refine cnd h hF 3 [1, 5] [0, 1, 2, 4, 5] (fun hb4 hF h => ?_) (fun hb4 hF h => ?_)
  · refine regS mixed hn hG h [0, 500, 501] (ov [] (op_build [] rfl bu82 z82 rfl) <| ou [0, 500] 1 (op_store_w Tryd.sizeOf82 q0 q1 (cells_agg _)) <| ov [] (op_assign qb) .nil) fun _ a w h => ?_
    refine wp_ret ?_
    obtain rfl := Option.some.inj hF
    exact ⟨.inl rfl, retn h (rs := [.cell 6 82, .tmp 7]) (Vs := [(aggVP [one (intVP .u32 (0 : Int)), one (strVP []), one (intVP .u64 (0 : Int)), one (intVP .u64 (0 : Int)), one (intVP .u64 (0 : Int)), one (intVP .u64 (0 : Int)), one (intVP .u64 (0 : Int))]), (boolVP false)]) Tryd.results57 (by decide) ⟨(r_cell 0 2 rfl rfl Tryd.isAgg82 Tryd.sizeOf82 rfl), (r_tmp 1 rfl), trivial⟩ [] [] rfl rfl rfl⟩
  · refine wp_skip ?_
    show Code.wp Tryd.prog _ _ a w
    obtain ⟨hv5, hF⟩ := ite_some hF
    refine regS mixed hn hG h [1, 500, 501] (ov [0] (op_fieldAddr_lbm (p := (b1 0)) (n := 1) 0 0 Tryd.underlying31 rfl Tryd.sizeOf28 (by decide) q0 rfl) <| ov [500, 3] (op_load_lb1 [] [one (slVP S_api_Holding.ck a_0.f_Holdings)] 1 Tryd.isAgg28 q0 rfl rfl) <| ov [2] (op_move q0) <| ov [501, 500] (op_indexAddr_sl Tryd.underlying28 Tryd.sizeOf82 S_api_Token.lens q0 q1 hv5) <| ov [500] (op_load_pp [one (intVP .u32 ((a_0.f_Tokens.getD r3.toNat default).f_Origin)), one (strVP ((a_0.f_Tokens.getD r3.toNat default).f_Name)), one (intVP .u64 ((a_0.f_Tokens.getD r3.toNat default).f_Cap)), one (intVP .u64 ((a_0.f_Tokens.getD r3.toNat default).f_Locked)), one (intVP .u64 ((a_0.f_Tokens.getD r3.toNat default).f_Unlocked)), one (intVP .u64 ((a_0.f_Tokens.getD r3.toNat default).f_Minted)), one (intVP .u64 ((a_0.f_Tokens.getD r3.toNat default).f_Burned))] [] Tryd.isAgg82 Tryd.sizeOf82 q0 rfl) <| ou [1, 500] 4 (op_store_w Tryd.sizeOf82 q0 q1 (cells_agg _)) <| ov [] (op_assign qb) .nil) fun _ a w h => ?_
    refine wp_ret ?_
    obtain rfl := Option.some.inj hF
    exact ⟨.inl rfl, retn h (rs := [.cell 6 82, .tmp 7]) (Vs := [(aggVP [one (intVP .u32 ((a_0.f_Tokens.getD r3.toNat default).f_Origin)), one (strVP ((a_0.f_Tokens.getD r3.toNat default).f_Name)), one (intVP .u64 ((a_0.f_Tokens.getD r3.toNat default).f_Cap)), one (intVP .u64 ((a_0.f_Tokens.getD r3.toNat default).f_Locked)), one (intVP .u64 ((a_0.f_Tokens.getD r3.toNat default).f_Unlocked)), one (intVP .u64 ((a_0.f_Tokens.getD r3.toNat default).f_Minted)), one (intVP .u64 ((a_0.f_Tokens.getD r3.toNat default).f_Burned))]), (boolVP true)]) Tryd.results57 (by decide) ⟨(r_cell 0 2 rfl rfl Tryd.isAgg82 Tryd.sizeOf82 rfl), (r_tmp 1 rfl), trivial⟩ [] [] rfl rfl rfl⟩

def amount_Sub (a_0 : Int) (a_1 : Int) : Option (Int × Int) := (if (decide (a_0 < a_1)) = true then some (0, 11) else some (IntKind.wrap .u64 (a_0 - a_1), 0))
theorem amount_Sub_ok {a_0 : Int} {a_1 : Int} {r : Int × Int} (hF : amount_Sub a_0 a_1 = some r) : CallOk Tryd.prog KG 79 [(intVP .u64 a_0), (intVP .u64 a_1)] [] (fun _ => []) (tupVP [(intVP .u64 r.1), (intVP .i64 r.2)]) := by
  refine CallOk.intro 12 Tryd.func79 rfl Tryd.ntmps79 (Nat.le_of_ble_eq_true rfl) ?_
  intro c a w hG hn h
  unfold amount_Sub at hF
  change SatL c [.slot 0 (intVP .u64 a_0), .slot 1 (intVP .u64 a_1)] a w at h
  refine regS mixed hn hG h [0, 1] (ov [] (op_assign qi) <| ov [] (op_assign qi) .nil) fun _ a w h => ?_
  refine wp_seq ?_
  refine regS mixed hn hG h [0, 1, 500] (ov [1] (op_move q0) <| ov [0] (op_move q0) <| ov [501, 500] (op_bin bin_gtr q0 q1) .nil) fun _ a w h => ?_
  refine cnd h hF 2 [] [0, 1] (fun hb1 hF h => ?_) (fun hb1 hF h => ?_)
  · refine regS mixed hn hG h [501, 500] (ov [] (op_assign qi) <| ov [] (op_assign qi) .nil) fun _ a w h => ?_
    refine wp_ret ?_
    obtain rfl := Option.some.inj hF
    exact ⟨.inl rfl, retn h (rs := [.tmp 4, .tmp 5]) (Vs := [(intVP .u64 0), (intVP .i64 11)]) Tryd.results79 (by decide) ⟨(r_tmp 0 rfl), (r_tmp 1 rfl), trivial⟩ [] [] rfl rfl rfl⟩
  · refine wp_skip ?_
    show Code.wp Tryd.prog _ _ a w
    refine regS mixed hn hG h [501, 500] (ov [0] (op_move q0) <| ov [1] (op_move q0) <| ov [501, 500] (op_bin bin_sub q0 q1) <| ov [500] (op_assign q0) <| ov [] (op_assign qi) .nil) fun _ a w h => ?_
    refine wp_ret ?_
    obtain rfl := Option.some.inj hF
    exact ⟨.inl rfl, retn h (rs := [.tmp 4, .tmp 5]) (Vs := [(intVP .u64 (IntKind.wrap .u64 (a_0 - a_1))), (intVP .i64 0)]) Tryd.results79 (by decide) ⟨(r_tmp 0 rfl), (r_tmp 1 rfl), trivial⟩ [] [] rfl rfl rfl⟩

def purse_Out (a_0 : S_api_Token) : Option (Int × Int) := ((amount_Sub a_0.f_Minted a_0.f_Burned).bind fun r2 => ((amount_Sub a_0.f_Locked a_0.f_Unlocked).bind fun r3 => some (r2.1, r3.1)))
theorem purse_Out_ok {a_0 : S_api_Token} {r : Int × Int} (hF : purse_Out a_0 = some r) : CallOk Tryd.prog KG 58 [(aggVP [one (intVP .u32 a_0.f_Origin), one (strVP a_0.f_Name), one (intVP .u64 a_0.f_Cap), one (intVP .u64 a_0.f_Locked), one (intVP .u64 a_0.f_Unlocked), one (intVP .u64 a_0.f_Minted), one (intVP .u64 a_0.f_Burned)])] [] (fun _ => []) (tupVP [(intVP .u64 r.1), (intVP .u64 r.2)]) := by
  refine CallOk.intro 26 Tryd.func58 rfl Tryd.ntmps58 (Nat.le_of_ble_eq_true rfl) ?_
  intro c a w hG hn h
  unfold purse_Out at hF
  change SatL c [.slot 0 (aggVP [one (intVP .u32 a_0.f_Origin), one (strVP a_0.f_Name), one (intVP .u64 a_0.f_Cap), one (intVP .u64 a_0.f_Locked), one (intVP .u64 a_0.f_Unlocked), one (intVP .u64 a_0.f_Minted), one (intVP .u64 a_0.f_Burned)])] a w at h
  refine regS mixed hn hG h [503, 502] (ob [0] (op_box q0 (cells_agg _)) <| ov [] (op_assign qi) <| ov [] (op_assign qi) .nil) fun b1 a w h => ?_
  obtain ⟨r2, hr2, hF⟩ := bind_some hF
  refine regS mixed hn hG h [0, 501, 1] (ov [0] (op_fieldAddr_lbm (p := (b1 0)) (n := 1) 0 5 Tryd.underlying82 rfl Tryd.sizeOf23 (by decide) q0 rfl) <| ov [500, 1] (op_load_lb1 [one (intVP .u32 a_0.f_Origin), one (strVP a_0.f_Name), one (intVP .u64 a_0.f_Cap), one (intVP .u64 a_0.f_Locked), one (intVP .u64 a_0.f_Unlocked)] [one (intVP .u64 a_0.f_Burned)] 1 Tryd.isAgg23 q0 rfl rfl) <| ov [0] (op_fieldAddr_lbm (p := (b1 0)) (n := 1) 0 6 Tryd.underlying82 rfl Tryd.sizeOf23 (by decide) q0 rfl) <| ov [500, 1] (op_load_lb1 [one (intVP .u32 a_0.f_Origin), one (strVP a_0.f_Name), one (intVP .u64 a_0.f_Cap), one (intVP .u64 a_0.f_Locked), one (intVP .u64 a_0.f_Unlocked), one (intVP .u64 a_0.f_Minted)] [] 1 Tryd.isAgg23 q0 rfl rfl) <| oc [502, 500] [] Tryd.call79 (amount_Sub_ok hr2) ⟨q0, q1, trivial⟩ <| ov [500] (op_move q0) <| ov [500] (op_extract q0 rfl) <| ov [501] (op_extract q0 rfl) <| ov [501] (op_assign q0) <| ov [501] (op_assign q0) .nil) fun _ a w h => ?_
  obtain ⟨r3, hr3, hF⟩ := bind_some hF
  refine regS mixed hn hG h [1, 501] (ov [0] (op_fieldAddr_lbm (p := (b1 0)) (n := 1) 0 3 Tryd.underlying82 rfl Tryd.sizeOf23 (by decide) q0 rfl) <| ov [500, 2] (op_load_lb1 [one (intVP .u32 a_0.f_Origin), one (strVP a_0.f_Name), one (intVP .u64 a_0.f_Cap)] [one (intVP .u64 a_0.f_Unlocked), one (intVP .u64 a_0.f_Minted), one (intVP .u64 a_0.f_Burned)] 1 Tryd.isAgg23 q0 rfl rfl) <| ov [0] (op_fieldAddr_lbm (p := (b1 0)) (n := 1) 0 4 Tryd.underlying82 rfl Tryd.sizeOf23 (by decide) q0 rfl) <| ov [500, 2] (op_load_lb1 [one (intVP .u32 a_0.f_Origin), one (strVP a_0.f_Name), one (intVP .u64 a_0.f_Cap), one (intVP .u64 a_0.f_Locked)] [one (intVP .u64 a_0.f_Minted), one (intVP .u64 a_0.f_Burned)] 1 Tryd.isAgg23 q0 rfl rfl) <| oc [502, 500] [] Tryd.call79 (amount_Sub_ok hr3) ⟨q0, q1, trivial⟩ <| ov [500] (op_move q0) <| ov [500] (op_extract q0 rfl) <| ov [501] (op_extract q0 rfl) <| ov [501] (op_assign q0) <| ov [501] (op_assign q0) .nil) fun _ a w h => ?_
  refine regS mixed hn hG h [501, 500] (ov [0] (op_move q0) <| ov [1] (op_move q0) <| ov [501] (op_assign q0) <| ov [501] (op_assign q0) .nil) fun _ a w h => ?_
  refine wp_ret ?_
  obtain rfl := Option.some.inj hF
  exact ⟨.inl rfl, retn h (rs := [.tmp 2, .tmp 3]) (Vs := [(intVP .u64 r2.1), (intVP .u64 r3.1)]) Tryd.results58 (by decide) ⟨(r_tmp 0 rfl), (r_tmp 1 rfl), trivial⟩ [] [] rfl rfl rfl⟩

def audit_out (a_0 : S_api_Chain) (a_1 : Int) (a_2 : List UInt8) : Option (Int × Int) := ((purse_Known a_0.f_Purse a_1 a_2).bind fun r2 => ((purse_Out r2.1).bind fun r4 => some (r4.1, r4.2)))
theorem audit_out_ok {a_0 : S_api_Chain} {a_1 : Int} {a_2 : List UInt8} {r : Int × Int} (hF : audit_out a_0 a_1 a_2 = some r) : CallOk Tryd.prog KG 30 [(aggVP [one (intVP .u32 a_0.f_ID), one (intVP .u64 a_0.f_Ledger.f_Height), one (intVP .u64 a_0.f_Ledger.f_Time), one (intVP .u64 a_0.f_Ledger.f_Gas), one (slVP S_api_Account.ck a_0.f_Ledger.f_Accounts), one (slVP S_api_Event.ck a_0.f_Ledger.f_Events), one (slVP S_api_Token.ck a_0.f_Purse.f_Tokens), one (slVP S_api_Holding.ck a_0.f_Purse.f_Holdings), one (intVP .u32 a_0.f_Home.f_Chain), bytesCk 32 a_0.f_Home.f_Updater, one (intVP .u32 a_0.f_Home.f_Tree.f_Count), arrCk 32 32 (dC 32) (lens_dC 32) a_0.f_Home.f_Tree.f_Branches, one (slVP (dC 32) a_0.f_Home.f_Leaves), one (slVP (dC 32) a_0.f_Home.f_Queue), bytesCk 32 a_0.f_Home.f_Committed, one (slVP S_api_Nonce.ck a_0.f_Home.f_Nonces), one (intVP .u64 a_0.f_Home.f_Bond), one (boolVP a_0.f_Home.f_Failed), one (intVP .u32 a_0.f_Replica.f_Chain), one (intVP .u32 a_0.f_Replica.f_Here), bytesCk 32 a_0.f_Replica.f_Updater, one (slVP (dC 32) a_0.f_Replica.f_Watchers), one (intVP .u64 a_0.f_Replica.f_Window), bytesCk 32 a_0.f_Replica.f_Committed, one (slVP S_api_Timed.ck a_0.f_Replica.f_Roots), one (slVP S_api_State.ck a_0.f_Replica.f_States), one (boolVP a_0.f_Replica.f_Failed), one (boolVP a_0.f_Replica.f_Cut), one (strVP a_0.f_Remote)]), (intVP .u32 a_1), (strVP a_2)] [] (fun _ => []) (tupVP [(intVP .u64 r.1), (intVP .u64 r.2)]) := by
  refine CallOk.intro 22 Tryd.func30 rfl Tryd.ntmps30 (Nat.le_of_ble_eq_true rfl) ?_
  intro c a w hG hn h
  unfold audit_out at hF
  change SatL c [.slot 0 (aggVP [one (intVP .u32 a_0.f_ID), one (intVP .u64 a_0.f_Ledger.f_Height), one (intVP .u64 a_0.f_Ledger.f_Time), one (intVP .u64 a_0.f_Ledger.f_Gas), one (slVP S_api_Account.ck a_0.f_Ledger.f_Accounts), one (slVP S_api_Event.ck a_0.f_Ledger.f_Events), one (slVP S_api_Token.ck a_0.f_Purse.f_Tokens), one (slVP S_api_Holding.ck a_0.f_Purse.f_Holdings), one (intVP .u32 a_0.f_Home.f_Chain), bytesCk 32 a_0.f_Home.f_Updater, one (intVP .u32 a_0.f_Home.f_Tree.f_Count), arrCk 32 32 (dC 32) (lens_dC 32) a_0.f_Home.f_Tree.f_Branches, one (slVP (dC 32) a_0.f_Home.f_Leaves), one (slVP (dC 32) a_0.f_Home.f_Queue), bytesCk 32 a_0.f_Home.f_Committed, one (slVP S_api_Nonce.ck a_0.f_Home.f_Nonces), one (intVP .u64 a_0.f_Home.f_Bond), one (boolVP a_0.f_Home.f_Failed), one (intVP .u32 a_0.f_Replica.f_Chain), one (intVP .u32 a_0.f_Replica.f_Here), bytesCk 32 a_0.f_Replica.f_Updater, one (slVP (dC 32) a_0.f_Replica.f_Watchers), one (intVP .u64 a_0.f_Replica.f_Window), bytesCk 32 a_0.f_Replica.f_Committed, one (slVP S_api_Timed.ck a_0.f_Replica.f_Roots), one (slVP S_api_State.ck a_0.f_Replica.f_States), one (boolVP a_0.f_Replica.f_Failed), one (boolVP a_0.f_Replica.f_Cut), one (strVP a_0.f_Remote)]), .slot 1 (intVP .u32 a_1), .slot 2 (strVP a_2)] a w at h
  refine regS mixed hn hG h [1, 2, 503, 502] (ob [0] (op_box q0 (cells_agg _)) <| ov [] (op_assign qi) <| ov [] (op_assign qi) .nil) fun b1 a w h => ?_
  obtain ⟨r2, hr2, hF⟩ := bind_some hF
  refine regS mixed hn hG h [503, 501] (ov [2] (op_fieldAddr_lbm (p := (b1 0)) (n := 2) 0 6 Tryd.underlying46 rfl Tryd.sizeOf31 (by decide) q0 rfl) <| ov [500, 3] (op_load_lb [one (intVP .u32 a_0.f_ID), one (intVP .u64 a_0.f_Ledger.f_Height), one (intVP .u64 a_0.f_Ledger.f_Time), one (intVP .u64 a_0.f_Ledger.f_Gas), one (slVP S_api_Account.ck a_0.f_Ledger.f_Accounts), one (slVP S_api_Event.ck a_0.f_Ledger.f_Events)] [one (slVP S_api_Token.ck a_0.f_Purse.f_Tokens), one (slVP S_api_Holding.ck a_0.f_Purse.f_Holdings)] [one (intVP .u32 a_0.f_Home.f_Chain), bytesCk 32 a_0.f_Home.f_Updater, one (intVP .u32 a_0.f_Home.f_Tree.f_Count), arrCk 32 32 (dC 32) (lens_dC 32) a_0.f_Home.f_Tree.f_Branches, one (slVP (dC 32) a_0.f_Home.f_Leaves), one (slVP (dC 32) a_0.f_Home.f_Queue), bytesCk 32 a_0.f_Home.f_Committed, one (slVP S_api_Nonce.ck a_0.f_Home.f_Nonces), one (intVP .u64 a_0.f_Home.f_Bond), one (boolVP a_0.f_Home.f_Failed), one (intVP .u32 a_0.f_Replica.f_Chain), one (intVP .u32 a_0.f_Replica.f_Here), bytesCk 32 a_0.f_Replica.f_Updater, one (slVP (dC 32) a_0.f_Replica.f_Watchers), one (intVP .u64 a_0.f_Replica.f_Window), bytesCk 32 a_0.f_Replica.f_Committed, one (slVP S_api_Timed.ck a_0.f_Replica.f_Roots), one (slVP S_api_State.ck a_0.f_Replica.f_States), one (boolVP a_0.f_Replica.f_Failed), one (boolVP a_0.f_Replica.f_Cut), one (strVP a_0.f_Remote)] 1 Tryd.isAgg31 Tryd.sizeOf31 q0 rfl rfl rfl) <| ov [0] (op_move q0) <| ov [1] (op_move q0) <| oc [502, 501, 500] [] Tryd.call57 (purse_Known_ok hr2) ⟨q0, q1, q2, trivial⟩ <| ov [500] (op_move q0) <| ov [500] (op_extract q0 rfl) <| ov [501] (op_extract q0 rfl) <| ob [] (op_alloc Tryd.zeroValue82 z82) <| og [501, 503] [500] [.res 8 100000 (fun v1_ _ => (lb (v1_) 82 [one (intVP .u32 r2.1.f_Origin), one (strVP r2.1.f_Name), one (intVP .u64 r2.1.f_Cap), one (intVP .u64 r2.1.f_Locked), one (intVP .u64 r2.1.f_Unlocked), one (intVP .u64 r2.1.f_Minted), one (intVP .u64 r2.1.f_Burned)]))] (GOk.plain (op_store_w Tryd.sizeOf82 q0 q1 (cells_agg _)) rfl) <| ov [503] (op_assign q0) .nil) fun b3 a w h => ?_
  obtain ⟨r4, hr4, hF⟩ := bind_some hF
  refine regS mixed hn hG h [501, 500] (ov [0, 1] (op_load_w 1 Tryd.isAgg82 Tryd.sizeOf82 q0) <| oc [500] [] Tryd.call58 (purse_Out_ok hr4) ⟨q0, trivial⟩ <| ov [500] (op_extract q0 rfl) <| ov [501] (op_extract q0 rfl) <| ov [501] (op_assign q0) <| ov [501] (op_assign q0) .nil) fun _ a w h => ?_
  refine wp_ret ?_
  obtain rfl := Option.some.inj hF
  exact ⟨.inl rfl, retn h (rs := [.tmp 6, .tmp 7]) (Vs := [(intVP .u64 r4.1), (intVP .u64 r4.2)]) Tryd.results30 (by decide) ⟨(r_tmp 0 rfl), (r_tmp 1 rfl), trivial⟩ [] [] rfl rfl rfl⟩

def audit_Backed (a_0 : S_api_Chain) (a_1 : S_api_Chain) (a_2 : List UInt8) : Option (Int × Int × Bool) := ((audit_out a_0 a_0.f_ID a_2).bind fun r3 => ((audit_out a_1 a_0.f_ID a_2).bind fun r4 => some (r3.2, r4.1, decide (r4.1 ≤ r3.2))))
theorem audit_Backed_ok {a_0 : S_api_Chain} {a_1 : S_api_Chain} {a_2 : List UInt8} {r : Int × Int × Bool} (hF : audit_Backed a_0 a_1 a_2 = some r) : CallOk Tryd.prog KG 7 [(aggVP [one (intVP .u32 a_0.f_ID), one (intVP .u64 a_0.f_Ledger.f_Height), one (intVP .u64 a_0.f_Ledger.f_Time), one (intVP .u64 a_0.f_Ledger.f_Gas), one (slVP S_api_Account.ck a_0.f_Ledger.f_Accounts), one (slVP S_api_Event.ck a_0.f_Ledger.f_Events), one (slVP S_api_Token.ck a_0.f_Purse.f_Tokens), one (slVP S_api_Holding.ck a_0.f_Purse.f_Holdings), one (intVP .u32 a_0.f_Home.f_Chain), bytesCk 32 a_0.f_Home.f_Updater, one (intVP .u32 a_0.f_Home.f_Tree.f_Count), arrCk 32 32 (dC 32) (lens_dC 32) a_0.f_Home.f_Tree.f_Branches, one (slVP (dC 32) a_0.f_Home.f_Leaves), one (slVP (dC 32) a_0.f_Home.f_Queue), bytesCk 32 a_0.f_Home.f_Committed, one (slVP S_api_Nonce.ck a_0.f_Home.f_Nonces), one (intVP .u64 a_0.f_Home.f_Bond), one (boolVP a_0.f_Home.f_Failed), one (intVP .u32 a_0.f_Replica.f_Chain), one (intVP .u32 a_0.f_Replica.f_Here), bytesCk 32 a_0.f_Replica.f_Updater, one (slVP (dC 32) a_0.f_Replica.f_Watchers), one (intVP .u64 a_0.f_Replica.f_Window), bytesCk 32 a_0.f_Replica.f_Committed, one (slVP S_api_Timed.ck a_0.f_Replica.f_Roots), one (slVP S_api_State.ck a_0.f_Replica.f_States), one (boolVP a_0.f_Replica.f_Failed), one (boolVP a_0.f_Replica.f_Cut), one (strVP a_0.f_Remote)]), (aggVP [one (intVP .u32 a_1.f_ID), one (intVP .u64 a_1.f_Ledger.f_Height), one (intVP .u64 a_1.f_Ledger.f_Time), one (intVP .u64 a_1.f_Ledger.f_Gas), one (slVP S_api_Account.ck a_1.f_Ledger.f_Accounts), one (slVP S_api_Event.ck a_1.f_Ledger.f_Events), one (slVP S_api_Token.ck a_1.f_Purse.f_Tokens), one (slVP S_api_Holding.ck a_1.f_Purse.f_Holdings), one (intVP .u32 a_1.f_Home.f_Chain), bytesCk 32 a_1.f_Home.f_Updater, one (intVP .u32 a_1.f_Home.f_Tree.f_Count), arrCk 32 32 (dC 32) (lens_dC 32) a_1.f_Home.f_Tree.f_Branches, one (slVP (dC 32) a_1.f_Home.f_Leaves), one (slVP (dC 32) a_1.f_Home.f_Queue), bytesCk 32 a_1.f_Home.f_Committed, one (slVP S_api_Nonce.ck a_1.f_Home.f_Nonces), one (intVP .u64 a_1.f_Home.f_Bond), one (boolVP a_1.f_Home.f_Failed), one (intVP .u32 a_1.f_Replica.f_Chain), one (intVP .u32 a_1.f_Replica.f_Here), bytesCk 32 a_1.f_Replica.f_Updater, one (slVP (dC 32) a_1.f_Replica.f_Watchers), one (intVP .u64 a_1.f_Replica.f_Window), bytesCk 32 a_1.f_Replica.f_Committed, one (slVP S_api_Timed.ck a_1.f_Replica.f_Roots), one (slVP S_api_State.ck a_1.f_Replica.f_States), one (boolVP a_1.f_Replica.f_Failed), one (boolVP a_1.f_Replica.f_Cut), one (strVP a_1.f_Remote)]), (strVP a_2)] [] (fun _ => []) (tupVP [(intVP .u64 r.1), (intVP .u64 r.2.1), (boolVP r.2.2)]) := by
  refine CallOk.intro 34 Tryd.func7 rfl Tryd.ntmps7 (Nat.le_of_ble_eq_true rfl) ?_
  intro c a w hG hn h
  unfold audit_Backed at hF
  change SatL c [.slot 0 (aggVP [one (intVP .u32 a_0.f_ID), one (intVP .u64 a_0.f_Ledger.f_Height), one (intVP .u64 a_0.f_Ledger.f_Time), one (intVP .u64 a_0.f_Ledger.f_Gas), one (slVP S_api_Account.ck a_0.f_Ledger.f_Accounts), one (slVP S_api_Event.ck a_0.f_Ledger.f_Events), one (slVP S_api_Token.ck a_0.f_Purse.f_Tokens), one (slVP S_api_Holding.ck a_0.f_Purse.f_Holdings), one (intVP .u32 a_0.f_Home.f_Chain), bytesCk 32 a_0.f_Home.f_Updater, one (intVP .u32 a_0.f_Home.f_Tree.f_Count), arrCk 32 32 (dC 32) (lens_dC 32) a_0.f_Home.f_Tree.f_Branches, one (slVP (dC 32) a_0.f_Home.f_Leaves), one (slVP (dC 32) a_0.f_Home.f_Queue), bytesCk 32 a_0.f_Home.f_Committed, one (slVP S_api_Nonce.ck a_0.f_Home.f_Nonces), one (intVP .u64 a_0.f_Home.f_Bond), one (boolVP a_0.f_Home.f_Failed), one (intVP .u32 a_0.f_Replica.f_Chain), one (intVP .u32 a_0.f_Replica.f_Here), bytesCk 32 a_0.f_Replica.f_Updater, one (slVP (dC 32) a_0.f_Replica.f_Watchers), one (intVP .u64 a_0.f_Replica.f_Window), bytesCk 32 a_0.f_Replica.f_Committed, one (slVP S_api_Timed.ck a_0.f_Replica.f_Roots), one (slVP S_api_State.ck a_0.f_Replica.f_States), one (boolVP a_0.f_Replica.f_Failed), one (boolVP a_0.f_Replica.f_Cut), one (strVP a_0.f_Remote)]), .slot 1 (aggVP [one (intVP .u32 a_1.f_ID), one (intVP .u64 a_1.f_Ledger.f_Height), one (intVP .u64 a_1.f_Ledger.f_Time), one (intVP .u64 a_1.f_Ledger.f_Gas), one (slVP S_api_Account.ck a_1.f_Ledger.f_Accounts), one (slVP S_api_Event.ck a_1.f_Ledger.f_Events), one (slVP S_api_Token.ck a_1.f_Purse.f_Tokens), one (slVP S_api_Holding.ck a_1.f_Purse.f_Holdings), one (intVP .u32 a_1.f_Home.f_Chain), bytesCk 32 a_1.f_Home.f_Updater, one (intVP .u32 a_1.f_Home.f_Tree.f_Count), arrCk 32 32 (dC 32) (lens_dC 32) a_1.f_Home.f_Tree.f_Branches, one (slVP (dC 32) a_1.f_Home.f_Leaves), one (slVP (dC 32) a_1.f_Home.f_Queue), bytesCk 32 a_1.f_Home.f_Committed, one (slVP S_api_Nonce.ck a_1.f_Home.f_Nonces), one (intVP .u64 a_1.f_Home.f_Bond), one (boolVP a_1.f_Home.f_Failed), one (intVP .u32 a_1.f_Replica.f_Chain), one (intVP .u32 a_1.f_Replica.f_Here), bytesCk 32 a_1.f_Replica.f_Updater, one (slVP (dC 32) a_1.f_Replica.f_Watchers), one (intVP .u64 a_1.f_Replica.f_Window), bytesCk 32 a_1.f_Replica.f_Committed, one (slVP S_api_Timed.ck a_1.f_Replica.f_Roots), one (slVP S_api_State.ck a_1.f_Replica.f_States), one (boolVP a_1.f_Replica.f_Failed), one (boolVP a_1.f_Replica.f_Cut), one (strVP a_1.f_Remote)]), .slot 2 (strVP a_2)] a w at h
  refine regS mixed hn hG h [2, 506, 504, 505, 503] (ob [0] (op_box q0 (cells_agg _)) <| ob [1] (op_box q0 (cells_agg _)) <| ov [] (op_assign qi) <| ov [] (op_assign qi) <| ov [] (op_assign qb) .nil) fun b1 a w h => ?_
  obtain ⟨r3, hr3, hF⟩ := bind_some hF
  refine regS mixed hn hG h [0, 1, 2, 500, 3, 4] (ov [1, 3] (op_load_w 1 Tryd.isAgg46 Tryd.sizeOf46 q0 (hn := by simp only [lensC, lensN, one, bytesCk, arrCk, intsCk])) <| ov [1] (op_fieldAddr_lbm (p := (b1 0)) (n := 1) 0 0 Tryd.underlying46 rfl Tryd.sizeOf22 (by decide) q0 rfl) <| ov [500, 3] (op_load_lb1 [] [one (intVP .u64 a_0.f_Ledger.f_Height), one (intVP .u64 a_0.f_Ledger.f_Time), one (intVP .u64 a_0.f_Ledger.f_Gas), one (slVP S_api_Account.ck a_0.f_Ledger.f_Accounts), one (slVP S_api_Event.ck a_0.f_Ledger.f_Events), one (slVP S_api_Token.ck a_0.f_Purse.f_Tokens), one (slVP S_api_Holding.ck a_0.f_Purse.f_Holdings), one (intVP .u32 a_0.f_Home.f_Chain), bytesCk 32 a_0.f_Home.f_Updater, one (intVP .u32 a_0.f_Home.f_Tree.f_Count), arrCk 32 32 (dC 32) (lens_dC 32) a_0.f_Home.f_Tree.f_Branches, one (slVP (dC 32) a_0.f_Home.f_Leaves), one (slVP (dC 32) a_0.f_Home.f_Queue), bytesCk 32 a_0.f_Home.f_Committed, one (slVP S_api_Nonce.ck a_0.f_Home.f_Nonces), one (intVP .u64 a_0.f_Home.f_Bond), one (boolVP a_0.f_Home.f_Failed), one (intVP .u32 a_0.f_Replica.f_Chain), one (intVP .u32 a_0.f_Replica.f_Here), bytesCk 32 a_0.f_Replica.f_Updater, one (slVP (dC 32) a_0.f_Replica.f_Watchers), one (intVP .u64 a_0.f_Replica.f_Window), bytesCk 32 a_0.f_Replica.f_Committed, one (slVP S_api_Timed.ck a_0.f_Replica.f_Roots), one (slVP S_api_State.ck a_0.f_Replica.f_States), one (boolVP a_0.f_Replica.f_Failed), one (boolVP a_0.f_Replica.f_Cut), one (strVP a_0.f_Remote)] 1 Tryd.isAgg22 q0 rfl rfl) <| ov [0] (op_move q0) <| oc [503, 501, 500] [] Tryd.call30 (audit_out_ok hr3) ⟨q0, q1, q2, trivial⟩ <| ov [500] (op_move q0) <| ov [500] (op_extract q0 rfl) <| ov [501] (op_extract q0 rfl) <| ov [501] (op_assign q0) <| ov [501] (op_assign q0) .nil) fun _ a w h => ?_
  obtain ⟨r4, hr4, hF⟩ := bind_some hF
  refine regS mixed hn hG h [3, 501] (ov [2, 5] (op_load_w 1 Tryd.isAgg46 Tryd.sizeOf46 q0 (hn := by simp only [lensC, lensN, one, bytesCk, arrCk, intsCk])) <| ov [1] (op_fieldAddr_lbm (p := (b1 0)) (n := 1) 0 0 Tryd.underlying46 rfl Tryd.sizeOf22 (by decide) q0 rfl) <| ov [500, 4] (op_load_lb1 [] [one (intVP .u64 a_0.f_Ledger.f_Height), one (intVP .u64 a_0.f_Ledger.f_Time), one (intVP .u64 a_0.f_Ledger.f_Gas), one (slVP S_api_Account.ck a_0.f_Ledger.f_Accounts), one (slVP S_api_Event.ck a_0.f_Ledger.f_Events), one (slVP S_api_Token.ck a_0.f_Purse.f_Tokens), one (slVP S_api_Holding.ck a_0.f_Purse.f_Holdings), one (intVP .u32 a_0.f_Home.f_Chain), bytesCk 32 a_0.f_Home.f_Updater, one (intVP .u32 a_0.f_Home.f_Tree.f_Count), arrCk 32 32 (dC 32) (lens_dC 32) a_0.f_Home.f_Tree.f_Branches, one (slVP (dC 32) a_0.f_Home.f_Leaves), one (slVP (dC 32) a_0.f_Home.f_Queue), bytesCk 32 a_0.f_Home.f_Committed, one (slVP S_api_Nonce.ck a_0.f_Home.f_Nonces), one (intVP .u64 a_0.f_Home.f_Bond), one (boolVP a_0.f_Home.f_Failed), one (intVP .u32 a_0.f_Replica.f_Chain), one (intVP .u32 a_0.f_Replica.f_Here), bytesCk 32 a_0.f_Replica.f_Updater, one (slVP (dC 32) a_0.f_Replica.f_Watchers), one (intVP .u64 a_0.f_Replica.f_Window), bytesCk 32 a_0.f_Replica.f_Committed, one (slVP S_api_Timed.ck a_0.f_Replica.f_Roots), one (slVP S_api_State.ck a_0.f_Replica.f_States), one (boolVP a_0.f_Replica.f_Failed), one (boolVP a_0.f_Replica.f_Cut), one (strVP a_0.f_Remote)] 1 Tryd.isAgg22 q0 rfl rfl) <| ov [0] (op_move q0) <| oc [503, 501, 500] [] Tryd.call30 (audit_out_ok hr4) ⟨q0, q1, q2, trivial⟩ <| ov [500] (op_move q0) <| ov [500] (op_extract q0 rfl) <| ov [501] (op_extract q0 rfl) <| ov [501] (op_assign q0) <| ov [501] (op_assign q0) .nil) fun _ a w h => ?_
  refine regS mixed hn hG h [502, 501, 500] (ov [0] (op_move q0) <| ov [1] (op_move q0) <| ov [1] (op_move q0) <| ov [0] (op_move q0) <| ov [501, 500] (op_bin bin_leq q0 q1) <| ov [504] (op_assign q0) <| ov [504] (op_assign q0) <| ov [502] (op_assign q0) .nil) fun _ a w h => ?_
  refine wp_ret ?_
  obtain rfl := Option.some.inj hF
  exact ⟨.inl rfl, retn h (rs := [.tmp 6, .tmp 7, .tmp 8]) (Vs := [(intVP .u64 r3.2), (intVP .u64 r4.1), (boolVP (decide (r4.1 ≤ r3.2)))]) Tryd.results7 (by decide) ⟨(r_tmp 0 rfl), (r_tmp 1 rfl), (r_tmp 2 rfl), trivial⟩ [] [] rfl rfl rfl⟩

def purse_held (a_0 : S_api_Holding) : Option S_purse_key := some (S_purse_key.mk a_0.f_Origin a_0.f_Token)
theorem purse_held_ok {a_0 : S_api_Holding} {r : S_purse_key} (hF : purse_held a_0 = some r) : CallOk Tryd.prog KG 60 [(aggVP [one (intVP .u32 a_0.f_Origin), one (strVP a_0.f_Token), one (strVP a_0.f_Owner), one (intVP .u64 a_0.f_Amount)])] [] (fun _ => []) (aggVP [one (intVP .u32 r.f_origin), one (strVP r.f_name)]) := by
  refine CallOk.intro 8 Tryd.func60 rfl Tryd.ntmps60 (Nat.le_of_ble_eq_true rfl) ?_
  intro c a w hG hn h
  unfold purse_held at hF
  change SatL c [.slot 0 (aggVP [one (intVP .u32 a_0.f_Origin), one (strVP a_0.f_Token), one (strVP a_0.f_Owner), one (intVP .u64 a_0.f_Amount)])] a w at h
  refine regS mixed hn hG h [503, 501, 502, 500] (ob [0] (op_box q0 (cells_agg _)) <| ob [] (op_alloc Tryd.zeroValue104 z104) .nil) fun b1 a w h => ?_
  refine regS mixed hn hG h [1, 500] (ov [0] (op_fieldAddr_lbm (p := (b1 0)) (n := 1) 0 0 Tryd.underlying120 rfl Tryd.sizeOf22 (by decide) q0 rfl) <| ov [500, 2] (op_load_lb1 [] [one (strVP a_0.f_Token), one (strVP a_0.f_Owner), one (intVP .u64 a_0.f_Amount)] 1 Tryd.isAgg22 q0 rfl rfl) <| ov [0] (op_fieldAddr_lbm (p := (b1 0)) (n := 1) 0 1 Tryd.underlying120 rfl Tryd.sizeOf9 (by decide) q0 rfl) <| ov [500, 2] (op_load_lb1 [one (intVP .u32 a_0.f_Origin)] [one (strVP a_0.f_Owner), one (intVP .u64 a_0.f_Amount)] 1 Tryd.isAgg9 q0 rfl rfl) <| ov [502, 500] (op_build [(0, .tmp 4), (1, .tmp 6)] rfl bu104 z104 ⟨[], [one (intVP .u32 (0 : Int))], [one (strVP [])], [one (intVP .u32 a_0.f_Origin)], _, rfl, rfl, rfl, q0, (cells_one (one_int _ _)), ⟨[one (intVP .u32 a_0.f_Origin)], [one (strVP [])], [], [one (strVP a_0.f_Token)], _, rfl, rfl, rfl, q1, (cells_one (one_str _)), rfl⟩⟩) <| ou [1, 500] 3 (op_store_w Tryd.sizeOf104 q0 q1 (cells_agg _)) .nil) fun _ a w h => ?_
  refine wp_ret ?_
  obtain rfl := Option.some.inj hF
  exact ⟨.inl rfl, ret1 h Tryd.results60 (r_cell 0 1 rfl rfl Tryd.isAgg104 Tryd.sizeOf104 rfl) [] [] rfl rfl rfl⟩

def amount_Sum.b1 (a_0 : List (Int)) (x5 : Int) (x6 : S_amount_Wide) : Option (Flow S_amount_Wide (Int × S_amount_Wide)) := (if (decide (x5 < (a_0.length : Int))) = true then (if (0 : Int) ≤ x5 ∧ x5 < a_0.length then some (.cont (IntKind.wrap .i64 (x5 + 1), (S_amount_Wide.mk (IntKind.wrap .u64 (x6.f_High + ((x6.f_Low + (a_0.getD x5.toNat default) + 0) / 18446744073709551616))) ((x6.f_Low + (a_0.getD x5.toNat default) + 0) % 18446744073709551616)))) else none) else some (.brk (x5, x6)))
def amount_Sum (a_0 : List (Int)) : Option S_amount_Wide := ((loopN (fun s : Int × S_amount_Wide => amount_Sum.b1 a_0 s.1 s.2) (((a_0.length : Int) - 0 : Int).toNat + 2) (0, (S_amount_Wide.mk (0 : Int) (0 : Int)))).bind fun cr => match cr with | .ret r => some r | .next (y17, y18) => some y18)
theorem amount_Sum_ok {a_0 : List (Int)} {r : S_amount_Wide} (hF : amount_Sum a_0 = some r) : CallOk Tryd.prog KG 61 [(slVP (iC .u64) a_0)] [] (fun _ => []) (aggVP [one (intVP .u64 r.f_High), one (intVP .u64 r.f_Low)]) := by
  refine CallOk.intro 29 Tryd.func61 rfl Tryd.ntmps61 (Nat.le_of_ble_eq_true rfl) ?_
  intro c a w hG hn h
  unfold amount_Sum at hF
  change SatL c [.slot 0 (slVP (iC .u64) a_0)] a w at h
  refine regS mixed hn hG h [0, 501, 500] (ob [] (op_alloc Tryd.zeroValue55 z55) .nil) fun b1 a w h => ?_
  refine regS mixed hn hG h [0, 1, 501, 2, 500] (ob [] (op_alloc Tryd.zeroValue55 z55) .nil) fun b2 a w h => ?_
  refine wp_seq ?_
  refine regS mixed hn hG h [1, 2, 502, 501, 500, 3, 4] (ov [0] (op_move q0) <| ov [500] (op_len_sl Tryd.underlying122 q0) <| ov [] (op_move qi) .nil) fun _ a w h => ?_
  refine wp_block ?_
  obtain ⟨cr13, hl14, hF⟩ := bind_some hF
  refine wp_mono (wp_loopN (R := S_amount_Wide) (S := Int × S_amount_Wide) (fun s a w => SatL c [.slot 2 (lpVP (b1 0) 0), .slot 3 (lpVP (b2 0) 0), .slot 8 (slVP (iC .u64) a_0), .slot 9 (intVP .i64 (a_0.length : Int)), .slot 10 (intVP .i64 s.1), .res (lb (b1 0) 55 [one (intVP .u64 ((S_amount_Wide.mk (0 : Int) (0 : Int)).f_High)), one (intVP .u64 ((S_amount_Wide.mk (0 : Int) (0 : Int)).f_Low))]), .res (lb (b2 0) 55 [one (intVP .u64 s.2.f_High), one (intVP .u64 s.2.f_Low)])] a w) (fun res e a w => match res with | .next s => e = .exit 0 ∧ SatL c [.slot 2 (lpVP (b1 0) 0), .slot 3 (lpVP (b2 0) 0), .res (lb (b1 0) 55 [one (intVP .u64 ((S_amount_Wide.mk (0 : Int) (0 : Int)).f_High)), one (intVP .u64 ((S_amount_Wide.mk (0 : Int) (0 : Int)).f_Low))]), .res (lb (b2 0) 55 [one (intVP .u64 s.2.f_High), one (intVP .u64 s.2.f_Low)])] a w | .ret r => e = .ret ∧ RetOk Tryd.prog Tryd.f61 c (aggVP [one (intVP .u64 r.f_High), one (intVP .u64 r.f_Low)]) (fun _ => []) a w) ?_ _ (0, (S_amount_Wide.mk (0 : Int) (0 : Int))) _ _ _ (h.sub [0, 1, 2, 3, 4, 5, 6] (by rfl)) hl14) ?_
  · clear hl14 hF h
    intro s a w o h hF
    obtain ⟨x5, x6⟩ := s
    change amount_Sum.b1 a_0 x5 x6 = some o at hF
    unfold amount_Sum.b1 at hF
    change SatL c [.slot 2 (lpVP (b1 0) 0), .slot 3 (lpVP (b2 0) 0), .slot 8 (slVP (iC .u64) a_0), .slot 9 (intVP .i64 (a_0.length : Int)), .slot 10 (intVP .i64 x5), .res (lb (b1 0) 55 [one (intVP .u64 ((S_amount_Wide.mk (0 : Int) (0 : Int)).f_High)), one (intVP .u64 ((S_amount_Wide.mk (0 : Int) (0 : Int)).f_Low))]), .res (lb (b2 0) 55 [one (intVP .u64 x6.f_High), one (intVP .u64 x6.f_Low)])] a w at h
    refine regS mixed hn hG h [0, 1, 2, 3, 4, 500, 5, 6] (ov [4, 3] (op_bin bin_lss q0 q1) .nil) fun _ a w h => ?_
    refine wp_seq ?_
    refine cnd h hF 5 [0, 1, 2, 3, 4, 6, 7] [0, 1, 2, 3, 4, 6, 7] (fun hb11 hF h => ?_) (fun hb11 hF h => ?_)
    · refine wp_skip ?_
      show Code.wp Tryd.prog _ _ a w
      refine wp_seq ?_
      refine wp_block ?_
      obtain ⟨hv12, hF⟩ := ite_some hF
      refine regS mixed hn hG h [0, 1, 500, 2, 3, 4, 5, 6] (ov [2, 4] (op_indexAddr_sl Tryd.underlying122 Tryd.sizeOf23 (lens_iC .u64) q0 q1 hv12) <| ov [500] (op_load_pp1 [] Tryd.isAgg23 q0) <| ov [500] (op_assign q0) .nil) fun _ a w h => ?_
      refine regS mixed hn hG h [0, 1, 501, 500, 3, 4, 5, 6, 7] (ov [1] (op_fieldAddr_lbm (p := (b2 0)) (n := 1) 0 1 Tryd.underlying55 rfl Tryd.sizeOf23 (by decide) q0 rfl) <| ov [500, 7] (op_load_lb1 [one (intVP .u64 x6.f_High)] [] 1 Tryd.isAgg23 q0 rfl rfl) <| ov [2] (op_move q0) <| ov [501, 500] (op_add64 add64_run q0 q1 qi (by decide)) <| ov [500] (op_move q0) <| ov [500] (op_extract q0 rfl) <| ov [501] (op_extract q0 rfl) <| ov [501] (op_assign q0) <| ov [501] (op_assign q0) .nil) fun _ a w h => ?_
      refine reg mixed hn hG h [0, 1, 4, 5, 6, 7, 500] (ov [1] (op_fieldAddr_lbm (p := (b2 0)) (n := 1) 0 0 Tryd.underlying55 rfl Tryd.sizeOf23 (by decide) q0 rfl) <| ov [500, 8] (op_load_lb1 [] [one (intVP .u64 x6.f_Low)] 1 Tryd.isAgg23 q0 rfl rfl) <| ov [3] (op_move q0) <| ov [501, 500] (op_bin bin_add q0 q1) <| ov [2] (op_move q0) <| ov [501, 500] (op_build [(0, .tmp 24), (1, .tmp 25)] rfl bu55 z55 ⟨[], [one (intVP .u64 (0 : Int))], [one (intVP .u64 (0 : Int))], [one (intVP .u64 (IntKind.wrap .u64 (x6.f_High + ((x6.f_Low + (a_0.getD x5.toNat default) + 0) / 18446744073709551616))))], _, rfl, rfl, rfl, q0, (cells_one (one_int _ _)), ⟨[one (intVP .u64 (IntKind.wrap .u64 (x6.f_High + ((x6.f_Low + (a_0.getD x5.toNat default) + 0) / 18446744073709551616))))], [one (intVP .u64 (0 : Int))], [], [one (intVP .u64 ((x6.f_Low + (a_0.getD x5.toNat default) + 0) % 18446744073709551616))], _, rfl, rfl, rfl, q1, (cells_one (one_int _ _)), rfl⟩⟩) <| ou [1, 500] 8 (op_store_w Tryd.sizeOf55 q0 q1 (cells_agg _)) .nil) fun _ a w h => ?_
      show Code.wp Tryd.prog _ _ a w
      refine reg mixed hn hG h [0, 1, 2, 3, 500, 5, 6] (ov [4] (op_bin bin_add q0 qi) <| od [500] 4 (op_move q0) .nil) fun _ a w h => ?_
      obtain rfl := Option.some.inj hF
      exact ⟨rfl, h.sub [0, 1, 2, 3, 4, 5, 6] (by rfl)⟩
    · refine wp_exit ?_
      obtain rfl := Option.some.inj hF
      exact ⟨exit_ne _, rfl, h.sub [0, 1, 5, 6] (by rfl)⟩
  · clear hl14
    intro e a w hq
    cases cr13 with
    | ret r15 =>
      obtain ⟨rfl, hq⟩ := hq
      obtain rfl := Option.some.inj hF
      exact ⟨.inl rfl, hq⟩
    | next s16 =>
      obtain ⟨y17, y18⟩ := s16
      obtain ⟨rfl, h⟩ := hq
      change SatL c [.slot 2 (lpVP (b1 0) 0), .slot 3 (lpVP (b2 0) 0), .res (lb (b1 0) 55 [one (intVP .u64 ((S_amount_Wide.mk (0 : Int) (0 : Int)).f_High)), one (intVP .u64 ((S_amount_Wide.mk (0 : Int) (0 : Int)).f_Low))]), .res (lb (b2 0) 55 [one (intVP .u64 y18.f_High), one (intVP .u64 y18.f_Low)])] a w at h
      refine inBlock_at ?_
      show Code.wp Tryd.prog _ _ a w
      refine regS mixed hn hG h [0, 500] (ov [1, 3] (op_load_w 1 Tryd.isAgg55 Tryd.sizeOf55 q0) <| ou [0, 500] 2 (op_store_w Tryd.sizeOf55 q0 q1 (cells_agg _)) .nil) fun _ a w h => ?_
      refine wp_ret ?_
      obtain rfl := Option.some.inj hF
      exact ⟨.inl rfl, ret1 h Tryd.results61 (r_cell 0 1 rfl rfl Tryd.isAgg55 Tryd.sizeOf55 rfl) [] [] rfl rfl rfl⟩

def purse_Supply.j1 (x21 : Int) (x41 : List (Int)) : Option (Flow S_amount_Wide (Int × (List (Int)))) := some (.cont (IntKind.wrap .i64 (x21 + 1), x41))
def purse_Supply.b1 (a_0 : S_api_Purse) (a_1 : Int) (a_2 : List UInt8) (x21 : Int) (x22 : List (Int)) : Option (Flow S_amount_Wide (Int × (List (Int)))) := (if (decide (x21 < (a_0.f_Holdings.length : Int))) = true then (if (0 : Int) ≤ x21 ∧ x21 < a_0.f_Holdings.length then ((purse_held (a_0.f_Holdings.getD x21.toNat default)).bind fun r38 => (if ((decide (r38.f_origin = a_1)) && ((decide (r38.f_name = a_2)) && true)) = true then (if x22.length + [(a_0.f_Holdings.getD x21.toNat default).f_Amount].length ≤ mxl ∧ (x22.length + [(a_0.f_Holdings.getD x21.toNat default).f_Amount].length) * 8 ≤ 140737488355328 then purse_Supply.j1 x21 (x22 ++ [(a_0.f_Holdings.getD x21.toNat default).f_Amount]) else none) else purse_Supply.j1 x21 x22)) else none) else some (.brk (x21, x22)))
def purse_Supply (a_0 : S_api_Purse) (a_1 : Int) (a_2 : List UInt8) : Option S_amount_Wide := ((loopN (fun s : Int × (List (Int)) => purse_Supply.b1 a_0 a_1 a_2 s.1 s.2) (((a_0.f_Holdings.length : Int) - 0 : Int).toNat + 2) (0, [])).bind fun cr => match cr with | .ret r => some r | .next (y50, y51) => ((amount_Sum y51).bind fun r52 => some r52))
theorem purse_Supply_ok {a_0 : S_api_Purse} {a_1 : Int} {a_2 : List UInt8} {r : S_amount_Wide} (hF : purse_Supply a_0 a_1 a_2 = some r) : CallOk Tryd.prog KG 34 [(aggVP [one (slVP S_api_Token.ck a_0.f_Tokens), one (slVP S_api_Holding.ck a_0.f_Holdings)]), (intVP .u32 a_1), (strVP a_2)] [] (fun _ => []) (aggVP [one (intVP .u64 r.f_High), one (intVP .u64 r.f_Low)]) := by
  refine CallOk.intro 31 Tryd.func34 rfl Tryd.ntmps34 (Nat.le_of_ble_eq_true rfl) ?_
  intro c a w hG hn h
  unfold purse_Supply at hF
  change SatL c [.slot 0 (aggVP [one (slVP S_api_Token.ck a_0.f_Tokens), one (slVP S_api_Holding.ck a_0.f_Holdings)]), .slot 1 (intVP .u32 a_1), .slot 2 (strVP a_2)] a w at h
  refine regS mixed hn hG h [1, 2, 503, 501, 502, 500] (ob [0] (op_box q0 (cells_agg _)) <| ob [] (op_alloc Tryd.zeroValue55 z55) .nil) fun b1 a w h => ?_
  refine regS mixed hn hG h [0, 1, 2, 3, 500, 4, 5] (ov [] (op_assign (opc (ec _))) .nil) fun _ a w h => ?_
  refine wp_seq ?_
  refine regS mixed hn hG h [0, 1, 3, 4, 502, 501, 500, 6] (ov [2] (op_fieldAddr_lbm (p := (b1 0)) (n := 1) 0 1 Tryd.underlying31 rfl Tryd.sizeOf29 (by decide) q0 rfl) <| ov [500, 5] (op_load_lb1 [one (slVP S_api_Token.ck a_0.f_Tokens)] [] 1 Tryd.isAgg29 q0 rfl rfl) <| ov [500] (op_len_sl Tryd.underlying29 q0) <| ov [] (op_move qi) .nil) fun _ a w h => ?_
  refine wp_block ?_
  obtain ⟨q12, h⟩ : ∃ q12 : Value, SatL c [.slot 1 (intVP .u32 a_1), .slot 2 (strVP a_2), .slot 6 (lpVP (b1 1) 0), .slot 7 (eqVP q12), .slot 11 (slVP S_api_Holding.ck a_0.f_Holdings), .slot 12 (intVP .i64 (a_0.f_Holdings.length : Int)), .slot 13 (intVP .i64 0), .res (lb (b1 1) 55 [one (intVP .u64 ((S_amount_Wide.mk (0 : Int) (0 : Int)).f_High)), one (intVP .u64 ((S_amount_Wide.mk (0 : Int) (0 : Int)).f_Low))]), .res (acc q12 23 1 (iC .u64) [])] a w := ⟨.slice none 0 0, (h.nilacc 23 1 (iC .u64)).sub [0, 1, 2, 3, 4, 5, 6, 7, 8] (by rfl)⟩
  obtain ⟨cr46, hl47, hF⟩ := bind_some hF
  refine wp_mono (wp_loopN (R := S_amount_Wide) (S := Int × (List (Int))) (fun s a w => ∃ q23 : Value, SatL c [.slot 1 (intVP .u32 a_1), .slot 2 (strVP a_2), .slot 6 (lpVP (b1 1) 0), .slot 7 (eqVP q23), .slot 11 (slVP S_api_Holding.ck a_0.f_Holdings), .slot 12 (intVP .i64 (a_0.f_Holdings.length : Int)), .slot 13 (intVP .i64 s.1), .res (lb (b1 1) 55 [one (intVP .u64 ((S_amount_Wide.mk (0 : Int) (0 : Int)).f_High)), one (intVP .u64 ((S_amount_Wide.mk (0 : Int) (0 : Int)).f_Low))]), .res (acc q23 23 1 (iC .u64) s.2)] a w) (fun res e a w => match res with | .next s => e = .exit 0 ∧ ∃ q23 : Value, SatL c [.slot 6 (lpVP (b1 1) 0), .slot 7 (eqVP q23), .res (lb (b1 1) 55 [one (intVP .u64 ((S_amount_Wide.mk (0 : Int) (0 : Int)).f_High)), one (intVP .u64 ((S_amount_Wide.mk (0 : Int) (0 : Int)).f_Low))]), .res (acc q23 23 1 (iC .u64) s.2)] a w | .ret r => e = .ret ∧ RetOk Tryd.prog Tryd.f34 c (aggVP [one (intVP .u64 r.f_High), one (intVP .u64 r.f_Low)]) (fun _ => []) a w) ?_ _ (0, []) _ _ _ ⟨q12, (h.sub [0, 1, 2, 3, 4, 5, 6, 7, 8] (by rfl))⟩ hl47) ?_
  · clear hl47 hF h
    intro s a w o h hF
    obtain ⟨x21, x22⟩ := s
    obtain ⟨q23, h⟩ := h
    change purse_Supply.b1 a_0 a_1 a_2 x21 x22 = some o at hF
    unfold purse_Supply.b1 at hF
    change SatL c [.slot 1 (intVP .u32 a_1), .slot 2 (strVP a_2), .slot 6 (lpVP (b1 1) 0), .slot 7 (eqVP q23), .slot 11 (slVP S_api_Holding.ck a_0.f_Holdings), .slot 12 (intVP .i64 (a_0.f_Holdings.length : Int)), .slot 13 (intVP .i64 x21), .res (lb (b1 1) 55 [one (intVP .u64 ((S_amount_Wide.mk (0 : Int) (0 : Int)).f_High)), one (intVP .u64 ((S_amount_Wide.mk (0 : Int) (0 : Int)).f_Low))]), .res (acc q23 23 1 (iC .u64) x22)] a w at h
    refine regS mixed hn hG h [0, 1, 2, 3, 4, 5, 6, 500, 7, 8] (ov [6, 5] (op_bin bin_lss q0 q1) .nil) fun _ a w h => ?_
    refine wp_seq ?_
    refine cnd h hF 7 [0, 1, 2, 3, 4, 5, 6, 8, 9] [0, 1, 2, 3, 4, 5, 6, 8, 9] (fun hb35 hF h => ?_) (fun hb35 hF h => ?_)
    · refine wp_skip ?_
      show Code.wp Tryd.prog _ _ a w
      refine wp_seq ?_
      refine wp_block ?_
      obtain ⟨hv36, hF⟩ := ite_some hF
      refine regS mixed hn hG h [0, 1, 2, 3, 502, 4, 5, 6, 7, 8, 500] (ov [4, 6] (op_indexAddr_sl Tryd.underlying29 Tryd.sizeOf120 S_api_Holding.lens q0 q1 hv36) <| ov [500] (op_load_pp [one (intVP .u32 ((a_0.f_Holdings.getD x21.toNat default).f_Origin)), one (strVP ((a_0.f_Holdings.getD x21.toNat default).f_Token)), one (strVP ((a_0.f_Holdings.getD x21.toNat default).f_Owner)), one (intVP .u64 ((a_0.f_Holdings.getD x21.toNat default).f_Amount))] [] Tryd.isAgg120 Tryd.sizeOf120 q0 rfl) <| ob [] (op_alloc Tryd.zeroValue120 z120) <| og [501, 502] [500] [.res 2 100000 (fun v1_ _ => (lb (v1_) 120 [one (intVP .u32 ((a_0.f_Holdings.getD x21.toNat default).f_Origin)), one (strVP ((a_0.f_Holdings.getD x21.toNat default).f_Token)), one (strVP ((a_0.f_Holdings.getD x21.toNat default).f_Owner)), one (intVP .u64 ((a_0.f_Holdings.getD x21.toNat default).f_Amount))]))] (GOk.plain (op_store_w Tryd.sizeOf120 q0 q1 (cells_agg _)) rfl) .nil) fun b37 a w h => ?_
      obtain ⟨r38, hr38, hF⟩ := bind_some hF
      refine regS mixed hn hG h [0, 1, 2, 3, 4, 5, 6, 7, 500, 8, 9, 10] (ov [4, 10] (op_load_w 1 Tryd.isAgg120 Tryd.sizeOf120 q0) <| oc [500] [] Tryd.call60 (purse_held_ok hr38) ⟨q0, trivial⟩ <| ov [0] (op_move q0) <| ov [1] (op_move q0) <| ov [501, 500] (op_build [(0, .tmp 19), (1, .tmp 20)] rfl bu104 z104 ⟨[], [one (intVP .u32 (0 : Int))], [one (strVP [])], [one (intVP .u32 a_1)], _, rfl, rfl, rfl, q0, (cells_one (one_int _ _)), ⟨[one (intVP .u32 a_1)], [one (strVP [])], [], [one (strVP a_2)], _, rfl, rfl, rfl, q1, (cells_one (one_str _)), rfl⟩⟩) <| ov [503, 500] (op_bin (bin_steql (d := 1) Tryd.underlying104 (by kernel_rfl) Tryd.eqGuardType104 (.cons (L := [one (intVP .u32 r38.f_origin)]) (M := [one (intVP .u32 a_1)]) (by decide) rfl (eqc_int Tryd.underlying22 Tryd.isAgg22) rfl rfl (.cons (L := [one (strVP r38.f_name)]) (M := [one (strVP a_2)]) (by decide) rfl (eqc_str Tryd.underlying9 Tryd.isAgg9) rfl rfl .nil))) q0 q1) .nil) fun _ a w h => ?_
      refine wp_cut (fun a w => ∃ (x41 : List (Int)), ∃ q42 : Value, purse_Supply.j1 x21 x41 = some o ∧ SatL c [.slot 1 (intVP .u32 a_1), .slot 2 (strVP a_2), .slot 6 (lpVP (b1 1) 0), .slot 7 (eqVP q42), .slot 11 (slVP S_api_Holding.ck a_0.f_Holdings), .slot 12 (intVP .i64 (a_0.f_Holdings.length : Int)), .slot 13 (intVP .i64 x21), .res (lb (b1 1) 55 [one (intVP .u64 ((S_amount_Wide.mk (0 : Int) (0 : Int)).f_High)), one (intVP .u64 ((S_amount_Wide.mk (0 : Int) (0 : Int)).f_Low))]), .res (acc q42 23 1 (iC .u64) x41)] a w) ?_ ?_
      · refine cnd h hF 8 [0, 1, 2, 3, 4, 5, 6, 7, 9, 10, 11] [0, 1, 2, 3, 5, 6, 7, 9, 10] (fun hb43 hF h => ?_) (fun hb43 hF h => ?_)
        · obtain ⟨hv44, hF⟩ := ite_some hF
          refine reg mixed hn hG h [0, 1, 2, 500, 5, 6, 7, 8, 501] (ov [3] (op_move q0) <| ov [4] (op_fieldAddr_lbm (p := (b37 2)) (n := 1) 0 3 Tryd.underlying120 rfl Tryd.sizeOf23 (by decide) q0 rfl) <| ov [500, 10] (op_load_lb1 [one (intVP .u32 ((a_0.f_Holdings.getD x21.toNat default).f_Origin)), one (strVP ((a_0.f_Holdings.getD x21.toNat default).f_Token)), one (strVP ((a_0.f_Holdings.getD x21.toNat default).f_Owner))] [] 1 Tryd.isAgg23 q0 rfl rfl) <| ov [500] (op_lit (xs := [.tmp 25]) (ys := [(a_0.f_Holdings.getD x21.toNat default).f_Amount]) _ rfl Tryd.underlying122 Tryd.sizeOf23 Tryd.zeroValue23 rfl rfl (by decide) (by decide) ⟨⟨_, q0, (cells_one (one_int _ _))⟩, trivial⟩ (lens_iC .u64)) <| og [503, 500] [9] [.slot 27 4 100000 (fun v1_ _ => (eqVP v1_)), .res 4 100000 (fun v1_ _ => (acc (v1_) 23 1 (iC .u64) (x22 ++ [(a_0.f_Holdings.getD x21.toNat default).f_Amount])))] (GOk.plain (op_append (i := Tryd.t23) Tryd.underlying122 Tryd.type23 rfl (lens_iC .u64) (by decide) rfl q0 q1 hv44) rfl) <| og [501] [3] [.slot 7 4 100000 (fun v1_ _ => (eqVP v1_))] (fun {β} => (GOk.drop _ (GOk.plain (op_assign (V := (eqVP (β 4))) q0) rfl))) .nil) fun b45 a w h => ?_
          exact ⟨x22 ++ [(a_0.f_Holdings.getD x21.toNat default).f_Amount], (b45 4), hF, h.sub [0, 1, 2, 3, 4, 5, 6, 7, 8] (by rfl)⟩
        · refine wp_skip ?_
          exact ⟨x22, q23, hF, h.sub [0, 1, 2, 3, 4, 5, 6, 7, 8] (by rfl)⟩
      · clear h hF
        rintro a w ⟨x41, q42, hF, h⟩
        unfold purse_Supply.j1 at hF
        show Code.wp Tryd.prog _ _ a w
        refine reg mixed hn hG h [0, 1, 2, 3, 4, 5, 500, 7, 8] (ov [6] (op_bin bin_add q0 qi) <| od [500] 6 (op_move q0) .nil) fun _ a w h => ?_
        obtain rfl := Option.some.inj hF
        exact ⟨rfl, q42, h.sub [0, 1, 2, 3, 4, 5, 6, 7, 8] (by rfl)⟩
    · refine wp_exit ?_
      obtain rfl := Option.some.inj hF
      exact ⟨exit_ne _, rfl, q23, h.sub [2, 3, 7, 8] (by rfl)⟩
  · clear hl47
    intro e a w hq
    cases cr46 with
    | ret r48 =>
      obtain ⟨rfl, hq⟩ := hq
      obtain rfl := Option.some.inj hF
      exact ⟨.inl rfl, hq⟩
    | next s49 =>
      obtain ⟨y50, y51⟩ := s49
      obtain ⟨rfl, q23, h⟩ := hq
      change SatL c [.slot 6 (lpVP (b1 1) 0), .slot 7 (eqVP q23), .res (lb (b1 1) 55 [one (intVP .u64 ((S_amount_Wide.mk (0 : Int) (0 : Int)).f_High)), one (intVP .u64 ((S_amount_Wide.mk (0 : Int) (0 : Int)).f_Low))]), .res (acc q23 23 1 (iC .u64) y51)] a w at h
      refine inBlock_at ?_
      show Code.wp Tryd.prog _ _ a w
      obtain ⟨r52, hr52, hF⟩ := bind_some hF
      refine regS mixed hn hG h [0, 500] (ov [1] (op_move q0) <| oc [500, 3] [] Tryd.call61 (amount_Sum_ok hr52) ⟨(opacc 0 1 rfl rfl), trivial⟩ <| ou [0, 500] 2 (op_store_w Tryd.sizeOf55 q0 q1 (cells_agg _)) .nil) fun _ a w h => ?_
      refine wp_ret ?_
      obtain rfl := Option.some.inj hF
      exact ⟨.inl rfl, ret1 h Tryd.results34 (r_cell 0 1 rfl rfl Tryd.isAgg55 Tryd.sizeOf55 rfl) [] [] rfl rfl rfl⟩

def amount_Wide_Add (a_0 : S_amount_Wide) (a_1 : S_amount_Wide) : Option (S_amount_Wide × Int) := (if ((a_0.f_Low + a_1.f_Low + 0) / 18446744073709551616) ≤ 1 then (if (!decide (((a_0.f_High + a_1.f_High + ((a_0.f_Low + a_1.f_Low + 0) / 18446744073709551616)) / 18446744073709551616) = (0 : Int))) = true then some ((S_amount_Wide.mk (0 : Int) (0 : Int)), 10) else some ((S_amount_Wide.mk ((a_0.f_High + a_1.f_High + ((a_0.f_Low + a_1.f_Low + 0) / 18446744073709551616)) % 18446744073709551616) ((a_0.f_Low + a_1.f_Low + 0) % 18446744073709551616)), 0)) else none)
theorem amount_Wide_Add_ok {a_0 : S_amount_Wide} {a_1 : S_amount_Wide} {r : S_amount_Wide × Int} (hF : amount_Wide_Add a_0 a_1 = some r) : CallOk Tryd.prog KG 35 [(aggVP [one (intVP .u64 a_0.f_High), one (intVP .u64 a_0.f_Low)]), (aggVP [one (intVP .u64 a_1.f_High), one (intVP .u64 a_1.f_Low)])] [] (fun _ => []) (tupVP [(aggVP [one (intVP .u64 r.1.f_High), one (intVP .u64 r.1.f_Low)]), (intVP .i64 r.2)]) := by
  refine CallOk.intro 33 Tryd.func35 rfl Tryd.ntmps35 (Nat.le_of_ble_eq_true rfl) ?_
  intro c a w hG hn h
  unfold amount_Wide_Add at hF
  change SatL c [.slot 0 (aggVP [one (intVP .u64 a_0.f_High), one (intVP .u64 a_0.f_Low)]), .slot 1 (aggVP [one (intVP .u64 a_1.f_High), one (intVP .u64 a_1.f_Low)])] a w at h
  refine regS mixed hn hG h [506, 504, 502, 505, 503, 501] (ob [0] (op_box q0 (cells_agg _)) <| ob [1] (op_box q0 (cells_agg _)) <| ob [] (op_alloc Tryd.zeroValue55 z55) <| ov [] (op_assign qi) .nil) fun b1 a w h => ?_
  refine regS mixed hn hG h [0, 1, 2, 501, 500, 3, 4, 5] (ov [0] (op_fieldAddr_lbm (p := (b1 0)) (n := 1) 0 1 Tryd.underlying55 rfl Tryd.sizeOf23 (by decide) q0 rfl) <| ov [500, 3] (op_load_lb1 [one (intVP .u64 a_0.f_High)] [] 1 Tryd.isAgg23 q0 rfl rfl) <| ov [1] (op_fieldAddr_lbm (p := (b1 1)) (n := 1) 0 1 Tryd.underlying55 rfl Tryd.sizeOf23 (by decide) q0 rfl) <| ov [500, 4] (op_load_lb1 [one (intVP .u64 a_1.f_High)] [] 1 Tryd.isAgg23 q0 rfl rfl) <| ov [502, 500] (op_add64 add64_run q0 q1 qi (by decide)) <| ov [500] (op_move q0) <| ov [500] (op_extract q0 rfl) <| ov [501] (op_extract q0 rfl) <| ov [501] (op_assign q0) <| ov [501] (op_assign q0) .nil) fun _ a w h => ?_
  obtain ⟨hv4, hF⟩ := ite_some hF
  refine regS mixed hn hG h [2, 3, 501, 500, 7] (ov [0] (op_fieldAddr_lbm (p := (b1 0)) (n := 1) 0 0 Tryd.underlying55 rfl Tryd.sizeOf23 (by decide) q0 rfl) <| ov [500, 5] (op_load_lb1 [] [one (intVP .u64 a_0.f_Low)] 1 Tryd.isAgg23 q0 rfl rfl) <| ov [1] (op_fieldAddr_lbm (p := (b1 1)) (n := 1) 0 0 Tryd.underlying55 rfl Tryd.sizeOf23 (by decide) q0 rfl) <| ov [500, 6] (op_load_lb1 [] [one (intVP .u64 a_1.f_Low)] 1 Tryd.isAgg23 q0 rfl rfl) <| ov [4] (op_move q0) <| ov [503, 501, 500] (op_add64 add64_run q0 q1 q2 hv4) <| ov [500] (op_move q0) <| ov [500] (op_extract q0 rfl) <| ov [501] (op_extract q0 rfl) <| ov [501] (op_assign q0) <| ov [501] (op_assign q0) .nil) fun _ a w h => ?_
  refine wp_seq ?_
  refine regS mixed hn hG h [0, 1, 2, 500, 4] (ov [3] (op_move q0) <| ov [500] (op_bin bin_neq q0 qi) .nil) fun _ a w h => ?_
  refine cnd h hF 3 [0, 4] [0, 1, 2, 4] (fun hb5 hF h => ?_) (fun hb5 hF h => ?_)
  · refine regS mixed hn hG h [0, 500, 501] (ov [] (op_build [] rfl bu55 z55 rfl) <| ou [0, 500] 1 (op_store_w Tryd.sizeOf55 q0 q1 (cells_agg _)) <| ov [] (op_assign qi) .nil) fun _ a w h => ?_
    refine wp_ret ?_
    obtain rfl := Option.some.inj hF
    exact ⟨.inl rfl, retn h (rs := [.cell 4 55, .tmp 5]) (Vs := [(aggVP [one (intVP .u64 (0 : Int)), one (intVP .u64 (0 : Int))]), (intVP .i64 10)]) Tryd.results35 (by decide) ⟨(r_cell 0 2 rfl rfl Tryd.isAgg55 Tryd.sizeOf55 rfl), (r_tmp 1 rfl), trivial⟩ [] [] rfl rfl rfl⟩
  · refine wp_skip ?_
    show Code.wp Tryd.prog _ _ a w
    refine regS mixed hn hG h [0, 500, 501] (ov [2] (op_move q0) <| ov [1] (op_move q0) <| ov [501, 500] (op_build [(0, .tmp 30), (1, .tmp 31)] rfl bu55 z55 ⟨[], [one (intVP .u64 (0 : Int))], [one (intVP .u64 (0 : Int))], [one (intVP .u64 ((a_0.f_High + a_1.f_High + ((a_0.f_Low + a_1.f_Low + 0) / 18446744073709551616)) % 18446744073709551616))], _, rfl, rfl, rfl, q0, (cells_one (one_int _ _)), ⟨[one (intVP .u64 ((a_0.f_High + a_1.f_High + ((a_0.f_Low + a_1.f_Low + 0) / 18446744073709551616)) % 18446744073709551616))], [one (intVP .u64 (0 : Int))], [], [one (intVP .u64 ((a_0.f_Low + a_1.f_Low + 0) % 18446744073709551616))], _, rfl, rfl, rfl, q1, (cells_one (one_int _ _)), rfl⟩⟩) <| ou [0, 500] 3 (op_store_w Tryd.sizeOf55 q0 q1 (cells_agg _)) <| ov [] (op_assign qi) .nil) fun _ a w h => ?_
    refine wp_ret ?_
    obtain rfl := Option.some.inj hF
    exact ⟨.inl rfl, retn h (rs := [.cell 4 55, .tmp 5]) (Vs := [(aggVP [one (intVP .u64 ((a_0.f_High + a_1.f_High + ((a_0.f_Low + a_1.f_Low + 0) / 18446744073709551616)) % 18446744073709551616)), one (intVP .u64 ((a_0.f_Low + a_1.f_Low + 0) % 18446744073709551616))]), (intVP .i64 0)]) Tryd.results35 (by decide) ⟨(r_cell 0 2 rfl rfl Tryd.isAgg55 Tryd.sizeOf55 rfl), (r_tmp 1 rfl), trivial⟩ [] [] rfl rfl rfl⟩

def audit_Whole (a_0 : S_api_Chain) (a_1 : List UInt8) : Option S_amount_Wide := ((audit_out a_0 a_0.f_ID a_1).bind fun r3 => ((purse_Supply a_0.f_Purse a_0.f_ID a_1).bind fun r4 => ((amount_Wide_Add r4 (S_amount_Wide.mk (0 : Int) r3.2)).bind fun r5 => some r5.1)))
theorem audit_Whole_ok {a_0 : S_api_Chain} {a_1 : List UInt8} {r : S_amount_Wide} (hF : audit_Whole a_0 a_1 = some r) : CallOk Tryd.prog KG 10 [(aggVP [one (intVP .u32 a_0.f_ID), one (intVP .u64 a_0.f_Ledger.f_Height), one (intVP .u64 a_0.f_Ledger.f_Time), one (intVP .u64 a_0.f_Ledger.f_Gas), one (slVP S_api_Account.ck a_0.f_Ledger.f_Accounts), one (slVP S_api_Event.ck a_0.f_Ledger.f_Events), one (slVP S_api_Token.ck a_0.f_Purse.f_Tokens), one (slVP S_api_Holding.ck a_0.f_Purse.f_Holdings), one (intVP .u32 a_0.f_Home.f_Chain), bytesCk 32 a_0.f_Home.f_Updater, one (intVP .u32 a_0.f_Home.f_Tree.f_Count), arrCk 32 32 (dC 32) (lens_dC 32) a_0.f_Home.f_Tree.f_Branches, one (slVP (dC 32) a_0.f_Home.f_Leaves), one (slVP (dC 32) a_0.f_Home.f_Queue), bytesCk 32 a_0.f_Home.f_Committed, one (slVP S_api_Nonce.ck a_0.f_Home.f_Nonces), one (intVP .u64 a_0.f_Home.f_Bond), one (boolVP a_0.f_Home.f_Failed), one (intVP .u32 a_0.f_Replica.f_Chain), one (intVP .u32 a_0.f_Replica.f_Here), bytesCk 32 a_0.f_Replica.f_Updater, one (slVP (dC 32) a_0.f_Replica.f_Watchers), one (intVP .u64 a_0.f_Replica.f_Window), bytesCk 32 a_0.f_Replica.f_Committed, one (slVP S_api_Timed.ck a_0.f_Replica.f_Roots), one (slVP S_api_State.ck a_0.f_Replica.f_States), one (boolVP a_0.f_Replica.f_Failed), one (boolVP a_0.f_Replica.f_Cut), one (strVP a_0.f_Remote)]), (strVP a_1)] [] (fun _ => []) (aggVP [one (intVP .u64 r.f_High), one (intVP .u64 r.f_Low)]) := by
  refine CallOk.intro 30 Tryd.func10 rfl Tryd.ntmps10 (Nat.le_of_ble_eq_true rfl) ?_
  intro c a w hG hn h
  unfold audit_Whole at hF
  change SatL c [.slot 0 (aggVP [one (intVP .u32 a_0.f_ID), one (intVP .u64 a_0.f_Ledger.f_Height), one (intVP .u64 a_0.f_Ledger.f_Time), one (intVP .u64 a_0.f_Ledger.f_Gas), one (slVP S_api_Account.ck a_0.f_Ledger.f_Accounts), one (slVP S_api_Event.ck a_0.f_Ledger.f_Events), one (slVP S_api_Token.ck a_0.f_Purse.f_Tokens), one (slVP S_api_Holding.ck a_0.f_Purse.f_Holdings), one (intVP .u32 a_0.f_Home.f_Chain), bytesCk 32 a_0.f_Home.f_Updater, one (intVP .u32 a_0.f_Home.f_Tree.f_Count), arrCk 32 32 (dC 32) (lens_dC 32) a_0.f_Home.f_Tree.f_Branches, one (slVP (dC 32) a_0.f_Home.f_Leaves), one (slVP (dC 32) a_0.f_Home.f_Queue), bytesCk 32 a_0.f_Home.f_Committed, one (slVP S_api_Nonce.ck a_0.f_Home.f_Nonces), one (intVP .u64 a_0.f_Home.f_Bond), one (boolVP a_0.f_Home.f_Failed), one (intVP .u32 a_0.f_Replica.f_Chain), one (intVP .u32 a_0.f_Replica.f_Here), bytesCk 32 a_0.f_Replica.f_Updater, one (slVP (dC 32) a_0.f_Replica.f_Watchers), one (intVP .u64 a_0.f_Replica.f_Window), bytesCk 32 a_0.f_Replica.f_Committed, one (slVP S_api_Timed.ck a_0.f_Replica.f_Roots), one (slVP S_api_State.ck a_0.f_Replica.f_States), one (boolVP a_0.f_Replica.f_Failed), one (boolVP a_0.f_Replica.f_Cut), one (strVP a_0.f_Remote)]), .slot 1 (strVP a_1)] a w at h
  refine regS mixed hn hG h [1, 503, 501, 502, 500] (ob [0] (op_box q0 (cells_agg _)) <| ob [] (op_alloc Tryd.zeroValue55 z55) .nil) fun b1 a w h => ?_
  obtain ⟨r3, hr3, hF⟩ := bind_some hF
  refine regS mixed hn hG h [0, 1, 2, 500, 3, 4] (ov [1, 3] (op_load_w 1 Tryd.isAgg46 Tryd.sizeOf46 q0 (hn := by simp only [lensC, lensN, one, bytesCk, arrCk, intsCk])) <| ov [1] (op_fieldAddr_lbm (p := (b1 0)) (n := 1) 0 0 Tryd.underlying46 rfl Tryd.sizeOf22 (by decide) q0 rfl) <| ov [500, 3] (op_load_lb1 [] [one (intVP .u64 a_0.f_Ledger.f_Height), one (intVP .u64 a_0.f_Ledger.f_Time), one (intVP .u64 a_0.f_Ledger.f_Gas), one (slVP S_api_Account.ck a_0.f_Ledger.f_Accounts), one (slVP S_api_Event.ck a_0.f_Ledger.f_Events), one (slVP S_api_Token.ck a_0.f_Purse.f_Tokens), one (slVP S_api_Holding.ck a_0.f_Purse.f_Holdings), one (intVP .u32 a_0.f_Home.f_Chain), bytesCk 32 a_0.f_Home.f_Updater, one (intVP .u32 a_0.f_Home.f_Tree.f_Count), arrCk 32 32 (dC 32) (lens_dC 32) a_0.f_Home.f_Tree.f_Branches, one (slVP (dC 32) a_0.f_Home.f_Leaves), one (slVP (dC 32) a_0.f_Home.f_Queue), bytesCk 32 a_0.f_Home.f_Committed, one (slVP S_api_Nonce.ck a_0.f_Home.f_Nonces), one (intVP .u64 a_0.f_Home.f_Bond), one (boolVP a_0.f_Home.f_Failed), one (intVP .u32 a_0.f_Replica.f_Chain), one (intVP .u32 a_0.f_Replica.f_Here), bytesCk 32 a_0.f_Replica.f_Updater, one (slVP (dC 32) a_0.f_Replica.f_Watchers), one (intVP .u64 a_0.f_Replica.f_Window), bytesCk 32 a_0.f_Replica.f_Committed, one (slVP S_api_Timed.ck a_0.f_Replica.f_Roots), one (slVP S_api_State.ck a_0.f_Replica.f_States), one (boolVP a_0.f_Replica.f_Failed), one (boolVP a_0.f_Replica.f_Cut), one (strVP a_0.f_Remote)] 1 Tryd.isAgg22 q0 rfl rfl) <| ov [0] (op_move q0) <| oc [503, 501, 500] [] Tryd.call30 (audit_out_ok hr3) ⟨q0, q1, q2, trivial⟩ <| ov [500] (op_move q0) <| ov [500] (op_extract q0 rfl) <| ov [501] (op_extract q0 rfl) <| ov [501] (op_assign q0) <| ov [501] (op_assign q0) .nil) fun _ a w h => ?_
  obtain ⟨r4, hr4, hF⟩ := bind_some hF
  obtain ⟨r5, hr5, hF⟩ := bind_some hF
  refine regS mixed hn hG h [2, 503, 5, 501] (ov [1] (op_fieldAddr_lbm (p := (b1 0)) (n := 2) 0 6 Tryd.underlying46 rfl Tryd.sizeOf31 (by decide) q0 rfl) <| ov [500, 4] (op_load_lb [one (intVP .u32 a_0.f_ID), one (intVP .u64 a_0.f_Ledger.f_Height), one (intVP .u64 a_0.f_Ledger.f_Time), one (intVP .u64 a_0.f_Ledger.f_Gas), one (slVP S_api_Account.ck a_0.f_Ledger.f_Accounts), one (slVP S_api_Event.ck a_0.f_Ledger.f_Events)] [one (slVP S_api_Token.ck a_0.f_Purse.f_Tokens), one (slVP S_api_Holding.ck a_0.f_Purse.f_Holdings)] [one (intVP .u32 a_0.f_Home.f_Chain), bytesCk 32 a_0.f_Home.f_Updater, one (intVP .u32 a_0.f_Home.f_Tree.f_Count), arrCk 32 32 (dC 32) (lens_dC 32) a_0.f_Home.f_Tree.f_Branches, one (slVP (dC 32) a_0.f_Home.f_Leaves), one (slVP (dC 32) a_0.f_Home.f_Queue), bytesCk 32 a_0.f_Home.f_Committed, one (slVP S_api_Nonce.ck a_0.f_Home.f_Nonces), one (intVP .u64 a_0.f_Home.f_Bond), one (boolVP a_0.f_Home.f_Failed), one (intVP .u32 a_0.f_Replica.f_Chain), one (intVP .u32 a_0.f_Replica.f_Here), bytesCk 32 a_0.f_Replica.f_Updater, one (slVP (dC 32) a_0.f_Replica.f_Watchers), one (intVP .u64 a_0.f_Replica.f_Window), bytesCk 32 a_0.f_Replica.f_Committed, one (slVP S_api_Timed.ck a_0.f_Replica.f_Roots), one (slVP S_api_State.ck a_0.f_Replica.f_States), one (boolVP a_0.f_Replica.f_Failed), one (boolVP a_0.f_Replica.f_Cut), one (strVP a_0.f_Remote)] 1 Tryd.isAgg31 Tryd.sizeOf31 q0 rfl rfl rfl) <| ov [1] (op_fieldAddr_lbm (p := (b1 0)) (n := 1) 0 0 Tryd.underlying46 rfl Tryd.sizeOf22 (by decide) q0 rfl) <| ov [500, 4] (op_load_lb1 [] [one (intVP .u64 a_0.f_Ledger.f_Height), one (intVP .u64 a_0.f_Ledger.f_Time), one (intVP .u64 a_0.f_Ledger.f_Gas), one (slVP S_api_Account.ck a_0.f_Ledger.f_Accounts), one (slVP S_api_Event.ck a_0.f_Ledger.f_Events), one (slVP S_api_Token.ck a_0.f_Purse.f_Tokens), one (slVP S_api_Holding.ck a_0.f_Purse.f_Holdings), one (intVP .u32 a_0.f_Home.f_Chain), bytesCk 32 a_0.f_Home.f_Updater, one (intVP .u32 a_0.f_Home.f_Tree.f_Count), arrCk 32 32 (dC 32) (lens_dC 32) a_0.f_Home.f_Tree.f_Branches, one (slVP (dC 32) a_0.f_Home.f_Leaves), one (slVP (dC 32) a_0.f_Home.f_Queue), bytesCk 32 a_0.f_Home.f_Committed, one (slVP S_api_Nonce.ck a_0.f_Home.f_Nonces), one (intVP .u64 a_0.f_Home.f_Bond), one (boolVP a_0.f_Home.f_Failed), one (intVP .u32 a_0.f_Replica.f_Chain), one (intVP .u32 a_0.f_Replica.f_Here), bytesCk 32 a_0.f_Replica.f_Updater, one (slVP (dC 32) a_0.f_Replica.f_Watchers), one (intVP .u64 a_0.f_Replica.f_Window), bytesCk 32 a_0.f_Replica.f_Committed, one (slVP S_api_Timed.ck a_0.f_Replica.f_Roots), one (slVP S_api_State.ck a_0.f_Replica.f_States), one (boolVP a_0.f_Replica.f_Failed), one (boolVP a_0.f_Replica.f_Cut), one (strVP a_0.f_Remote)] 1 Tryd.isAgg22 q0 rfl rfl) <| ov [0] (op_move q0) <| oc [503, 501, 500] [] Tryd.call34 (purse_Supply_ok hr4) ⟨q0, q1, q2, trivial⟩ <| ov [3] (op_move q0) <| ov [500] (op_build [(1, .tmp 24)] rfl bu55 z55 ⟨[one (intVP .u64 (0 : Int))], [one (intVP .u64 (0 : Int))], [], [one (intVP .u64 r3.2)], _, rfl, rfl, rfl, q0, (cells_one (one_int _ _)), rfl⟩) <| oc [502, 500] [] Tryd.call35 (amount_Wide_Add_ok hr5) ⟨q0, q1, trivial⟩ <| ov [500] (op_move q0) <| ov [500] (op_extract q0 rfl) <| ov [501] (op_extract q0 rfl) <| ob [] (op_alloc Tryd.zeroValue55 z55) <| og [501, 503] [500] [.res 12 100000 (fun v1_ _ => (lb (v1_) 55 [one (intVP .u64 r5.1.f_High), one (intVP .u64 r5.1.f_Low)]))] (GOk.plain (op_store_w Tryd.sizeOf55 q0 q1 (cells_agg _)) rfl) <| ov [503] (op_assign q0) .nil) fun b6 a w h => ?_
  refine regS mixed hn hG h [0, 500] (ov [1, 3] (op_load_w 1 Tryd.isAgg55 Tryd.sizeOf55 q0) <| ou [0, 500] 2 (op_store_w Tryd.sizeOf55 q0 q1 (cells_agg _)) .nil) fun _ a w h => ?_
  refine wp_ret ?_
  obtain rfl := Option.some.inj hF
  exact ⟨.inl rfl, ret1 h Tryd.results10 (r_cell 0 1 rfl rfl Tryd.isAgg55 Tryd.sizeOf55 rfl) [] [] rfl rfl rfl⟩

def audit_Stands (a_0 : S_api_Chain) (a_1 : Int) (a_2 : List UInt8) : Option Bool := ((audit_out a_0 a_1 a_2).bind fun r2 => ((purse_Supply a_0.f_Purse a_1 a_2).bind fun r3 => some ((decide (r3.f_High = (0 : Int))) && ((decide (r3.f_Low = r2.1)) && true))))
theorem audit_Stands_ok {a_0 : S_api_Chain} {a_1 : Int} {a_2 : List UInt8} {r : Bool} (hF : audit_Stands a_0 a_1 a_2 = some r) : CallOk Tryd.prog KG 12 [(aggVP [one (intVP .u32 a_0.f_ID), one (intVP .u64 a_0.f_Ledger.f_Height), one (intVP .u64 a_0.f_Ledger.f_Time), one (intVP .u64 a_0.f_Ledger.f_Gas), one (slVP S_api_Account.ck a_0.f_Ledger.f_Accounts), one (slVP S_api_Event.ck a_0.f_Ledger.f_Events), one (slVP S_api_Token.ck a_0.f_Purse.f_Tokens), one (slVP S_api_Holding.ck a_0.f_Purse.f_Holdings), one (intVP .u32 a_0.f_Home.f_Chain), bytesCk 32 a_0.f_Home.f_Updater, one (intVP .u32 a_0.f_Home.f_Tree.f_Count), arrCk 32 32 (dC 32) (lens_dC 32) a_0.f_Home.f_Tree.f_Branches, one (slVP (dC 32) a_0.f_Home.f_Leaves), one (slVP (dC 32) a_0.f_Home.f_Queue), bytesCk 32 a_0.f_Home.f_Committed, one (slVP S_api_Nonce.ck a_0.f_Home.f_Nonces), one (intVP .u64 a_0.f_Home.f_Bond), one (boolVP a_0.f_Home.f_Failed), one (intVP .u32 a_0.f_Replica.f_Chain), one (intVP .u32 a_0.f_Replica.f_Here), bytesCk 32 a_0.f_Replica.f_Updater, one (slVP (dC 32) a_0.f_Replica.f_Watchers), one (intVP .u64 a_0.f_Replica.f_Window), bytesCk 32 a_0.f_Replica.f_Committed, one (slVP S_api_Timed.ck a_0.f_Replica.f_Roots), one (slVP S_api_State.ck a_0.f_Replica.f_States), one (boolVP a_0.f_Replica.f_Failed), one (boolVP a_0.f_Replica.f_Cut), one (strVP a_0.f_Remote)]), (intVP .u32 a_1), (strVP a_2)] [] (fun _ => []) (boolVP r) := by
  refine CallOk.intro 24 Tryd.func12 rfl Tryd.ntmps12 (Nat.le_of_ble_eq_true rfl) ?_
  intro c a w hG hn h
  unfold audit_Stands at hF
  change SatL c [.slot 0 (aggVP [one (intVP .u32 a_0.f_ID), one (intVP .u64 a_0.f_Ledger.f_Height), one (intVP .u64 a_0.f_Ledger.f_Time), one (intVP .u64 a_0.f_Ledger.f_Gas), one (slVP S_api_Account.ck a_0.f_Ledger.f_Accounts), one (slVP S_api_Event.ck a_0.f_Ledger.f_Events), one (slVP S_api_Token.ck a_0.f_Purse.f_Tokens), one (slVP S_api_Holding.ck a_0.f_Purse.f_Holdings), one (intVP .u32 a_0.f_Home.f_Chain), bytesCk 32 a_0.f_Home.f_Updater, one (intVP .u32 a_0.f_Home.f_Tree.f_Count), arrCk 32 32 (dC 32) (lens_dC 32) a_0.f_Home.f_Tree.f_Branches, one (slVP (dC 32) a_0.f_Home.f_Leaves), one (slVP (dC 32) a_0.f_Home.f_Queue), bytesCk 32 a_0.f_Home.f_Committed, one (slVP S_api_Nonce.ck a_0.f_Home.f_Nonces), one (intVP .u64 a_0.f_Home.f_Bond), one (boolVP a_0.f_Home.f_Failed), one (intVP .u32 a_0.f_Replica.f_Chain), one (intVP .u32 a_0.f_Replica.f_Here), bytesCk 32 a_0.f_Replica.f_Updater, one (slVP (dC 32) a_0.f_Replica.f_Watchers), one (intVP .u64 a_0.f_Replica.f_Window), bytesCk 32 a_0.f_Replica.f_Committed, one (slVP S_api_Timed.ck a_0.f_Replica.f_Roots), one (slVP S_api_State.ck a_0.f_Replica.f_States), one (boolVP a_0.f_Replica.f_Failed), one (boolVP a_0.f_Replica.f_Cut), one (strVP a_0.f_Remote)]), .slot 1 (intVP .u32 a_1), .slot 2 (strVP a_2)] a w at h
  refine regS mixed hn hG h [1, 2, 502, 501] (ob [0] (op_box q0 (cells_agg _)) <| ov [] (op_assign qb) .nil) fun b1 a w h => ?_
  obtain ⟨r2, hr2, hF⟩ := bind_some hF
  refine regS mixed hn hG h [0, 1, 2, 501, 3] (ov [2, 3] (op_load_w 1 Tryd.isAgg46 Tryd.sizeOf46 q0 (hn := by simp only [lensC, lensN, one, bytesCk, arrCk, intsCk])) <| ov [0] (op_move q0) <| ov [1] (op_move q0) <| oc [502, 501, 500] [] Tryd.call30 (audit_out_ok hr2) ⟨q0, q1, q2, trivial⟩ <| ov [500] (op_move q0) <| ov [500] (op_extract q0 rfl) <| ov [501] (op_extract q0 rfl) <| ov [501] (op_assign q0) <| ov [501] (op_assign q0) .nil) fun _ a w h => ?_
  obtain ⟨r3, hr3, hF⟩ := bind_some hF
  refine regS mixed hn hG h [500] (ov [2] (op_fieldAddr_lbm (p := (b1 0)) (n := 2) 0 6 Tryd.underlying46 rfl Tryd.sizeOf31 (by decide) q0 rfl) <| ov [500, 4] (op_load_lb [one (intVP .u32 a_0.f_ID), one (intVP .u64 a_0.f_Ledger.f_Height), one (intVP .u64 a_0.f_Ledger.f_Time), one (intVP .u64 a_0.f_Ledger.f_Gas), one (slVP S_api_Account.ck a_0.f_Ledger.f_Accounts), one (slVP S_api_Event.ck a_0.f_Ledger.f_Events)] [one (slVP S_api_Token.ck a_0.f_Purse.f_Tokens), one (slVP S_api_Holding.ck a_0.f_Purse.f_Holdings)] [one (intVP .u32 a_0.f_Home.f_Chain), bytesCk 32 a_0.f_Home.f_Updater, one (intVP .u32 a_0.f_Home.f_Tree.f_Count), arrCk 32 32 (dC 32) (lens_dC 32) a_0.f_Home.f_Tree.f_Branches, one (slVP (dC 32) a_0.f_Home.f_Leaves), one (slVP (dC 32) a_0.f_Home.f_Queue), bytesCk 32 a_0.f_Home.f_Committed, one (slVP S_api_Nonce.ck a_0.f_Home.f_Nonces), one (intVP .u64 a_0.f_Home.f_Bond), one (boolVP a_0.f_Home.f_Failed), one (intVP .u32 a_0.f_Replica.f_Chain), one (intVP .u32 a_0.f_Replica.f_Here), bytesCk 32 a_0.f_Replica.f_Updater, one (slVP (dC 32) a_0.f_Replica.f_Watchers), one (intVP .u64 a_0.f_Replica.f_Window), bytesCk 32 a_0.f_Replica.f_Committed, one (slVP S_api_Timed.ck a_0.f_Replica.f_Roots), one (slVP S_api_State.ck a_0.f_Replica.f_States), one (boolVP a_0.f_Replica.f_Failed), one (boolVP a_0.f_Replica.f_Cut), one (strVP a_0.f_Remote)] 1 Tryd.isAgg31 Tryd.sizeOf31 q0 rfl rfl rfl) <| ov [0] (op_move q0) <| ov [1] (op_move q0) <| oc [502, 501, 500] [] Tryd.call34 (purse_Supply_ok hr3) ⟨q0, q1, q2, trivial⟩ <| ov [3] (op_move q0) <| ov [500] (op_build [(1, .tmp 21)] rfl bu55 z55 ⟨[one (intVP .u64 (0 : Int))], [one (intVP .u64 (0 : Int))], [], [one (intVP .u64 r2.1)], _, rfl, rfl, rfl, q0, (cells_one (one_int _ _)), rfl⟩) <| ov [502, 500] (op_bin (bin_steql (d := 1) Tryd.underlying55 (by kernel_rfl) Tryd.eqGuardType55 (.cons (L := [one (intVP .u64 r3.f_High)]) (M := [one (intVP .u64 (0 : Int))]) (by decide) rfl (eqc_int Tryd.underlying23 Tryd.isAgg23) rfl rfl (.cons (L := [one (intVP .u64 r3.f_Low)]) (M := [one (intVP .u64 r2.1)]) (by decide) rfl (eqc_int Tryd.underlying23 Tryd.isAgg23) rfl rfl .nil))) q0 q1) <| ov [500] (op_assign q0) .nil) fun _ a w h => ?_
  refine wp_ret ?_
  obtain rfl := Option.some.inj hF
  exact ⟨.inl rfl, ret1 h Tryd.results12 (r_tmp 0 rfl) [] [] rfl rfl rfl⟩

def name_small.j1 (x1 : Bool) : Option Bool := some x1
def name_small (a_0 : Int) : Option Bool := (if (decide ((97 : Int) ≤ a_0)) = true then (if (decide (a_0 ≤ (122 : Int))) = true then name_small.j1 true else (if (decide ((945 : Int) ≤ a_0)) = true then name_small.j1 (decide (a_0 ≤ (969 : Int))) else name_small.j1 false)) else (if (decide ((945 : Int) ≤ a_0)) = true then name_small.j1 (decide (a_0 ≤ (969 : Int))) else name_small.j1 false))
theorem name_small_ok {a_0 : Int} {r : Bool} (hF : name_small a_0 = some r) : CallOk Tryd.prog KG 68 [(intVP .i32 a_0)] [] (fun _ => []) (boolVP r) := by
  refine CallOk.intro 17 Tryd.func68 rfl Tryd.ntmps68 (Nat.le_of_ble_eq_true rfl) ?_
  intro c a w hG hn h
  unfold name_small at hF
  change SatL c [.slot 0 (intVP .i32 a_0)] a w at h
  refine regS mixed hn hG h [0] (ov [] (op_assign qb) .nil) fun _ a w h => ?_
  refine wp_seq ?_
  refine wp_cut (fun a w => ∃ (x1 : Bool), name_small.j1 x1 = some r ∧ SatL c [.slot 2 (boolVP x1)] a w) ?_ ?_
  · rcases Bool.eq_false_or_eq_true (decide ((97 : Int) ≤ a_0)) with hb2 | hb2
    · replace hF := tt_of hb2 hF
      rcases Bool.eq_false_or_eq_true (decide (a_0 ≤ (122 : Int))) with hb3 | hb3
      · replace hF := tt_of hb3 hF
        refine reg mixed hn hG h [500] (ov [0] (op_move q0) <| ov [500] (op_bin bin_geq q0 qi) <| ov [500] (op_move q0) <| oe [500, 0] [] (GOk.on_eq hb2 rfl rfl rfl (op_move q0)) <| oe [501, 500] [] (GOk.on_eq hb2 rfl rfl rfl (op_bin bin_leq q0 qi)) <| ov [502, 500] (op_pick_t hb2 q0 q1) <| ov [500] (op_move q0) <| oe [500] [] (GOk.off_v (want := false) hb3 rfl rfl rfl rfl) <| oe [501] [] (GOk.off_v (want := false) hb3 rfl rfl rfl rfl) <| oe [502] [] (GOk.off_v (want := false) hb3 rfl rfl rfl rfl) <| oe [500] [] (GOk.off_u rfl rfl rfl rfl) <| oe [501] [] (GOk.off_u rfl rfl rfl rfl) <| oe [505] [] (GOk.off_v (want := false) hb3 rfl rfl rfl rfl) <| ov [506] (op_pick_t hb3 q0 qb) <| ov [500] (op_assign q0) .nil) fun _ a w h => ?_
        exact ⟨true, hF, h.sub [0] (by rfl)⟩
      · replace hF := ff_of hb3 hF
        rcases Bool.eq_false_or_eq_true (decide ((945 : Int) ≤ a_0)) with hb4 | hb4
        · replace hF := tt_of hb4 hF
          refine reg mixed hn hG h [500] (ov [0] (op_move q0) <| ov [500] (op_bin bin_geq q0 qi) <| ov [500] (op_move q0) <| oe [500, 0] [] (GOk.on_eq hb2 rfl rfl rfl (op_move q0)) <| oe [501, 500] [] (GOk.on_eq hb2 rfl rfl rfl (op_bin bin_leq q0 qi)) <| ov [502, 500] (op_pick_t hb2 q0 q1) <| ov [500] (op_move q0) <| oe [500, 0] [] (GOk.on_eq hb3 rfl rfl rfl (op_move q0)) <| oe [501, 500] [] (GOk.on_eq hb3 rfl rfl rfl (op_bin bin_geq q0 qi)) <| oe [502, 500] [] (GOk.on_eq hb3 rfl rfl rfl (op_move q0)) <| oe [500, 0] [] (GOk.on_eq hb4 rfl rfl rfl (op_move q0)) <| oe [501, 500] [] (GOk.on_eq hb4 rfl rfl rfl (op_bin bin_leq q0 qi)) <| oe [505, 502, 500] [] (GOk.on_eq hb3 rfl rfl rfl (op_pick_t hb4 q0 q1)) <| ov [506, 500] (op_pick_f hb3 q0 q1) <| ov [500] (op_assign q0) .nil) fun _ a w h => ?_
          exact ⟨decide (a_0 ≤ (969 : Int)), hF, h.sub [0] (by rfl)⟩
        · replace hF := ff_of hb4 hF
          refine reg mixed hn hG h [500] (ov [0] (op_move q0) <| ov [500] (op_bin bin_geq q0 qi) <| ov [500] (op_move q0) <| oe [500, 0] [] (GOk.on_eq hb2 rfl rfl rfl (op_move q0)) <| oe [501, 500] [] (GOk.on_eq hb2 rfl rfl rfl (op_bin bin_leq q0 qi)) <| ov [502, 500] (op_pick_t hb2 q0 q1) <| ov [500] (op_move q0) <| oe [500, 0] [] (GOk.on_eq hb3 rfl rfl rfl (op_move q0)) <| oe [501, 500] [] (GOk.on_eq hb3 rfl rfl rfl (op_bin bin_geq q0 qi)) <| oe [502, 500] [] (GOk.on_eq hb3 rfl rfl rfl (op_move q0)) <| oe [500] [] (GOk.off_v (want := true) hb4 rfl rfl rfl rfl) <| oe [501] [] (GOk.off_v (want := true) hb4 rfl rfl rfl rfl) <| oe [505, 502] [] (GOk.on_eq hb3 rfl rfl rfl (op_pick_f hb4 q0 qb)) <| ov [506, 500] (op_pick_f hb3 q0 q1) <| ov [500] (op_assign q0) .nil) fun _ a w h => ?_
          exact ⟨false, hF, h.sub [0] (by rfl)⟩
    · replace hF := ff_of hb2 hF
      rcases Bool.eq_false_or_eq_true (decide ((945 : Int) ≤ a_0)) with hb5 | hb5
      · replace hF := tt_of hb5 hF
        refine reg mixed hn hG h [500] (ov [0] (op_move q0) <| ov [500] (op_bin bin_geq q0 qi) <| ov [500] (op_move q0) <| oe [500] [] (GOk.off_v (want := true) hb2 rfl rfl rfl rfl) <| oe [501] [] (GOk.off_v (want := true) hb2 rfl rfl rfl rfl) <| ov [502] (op_pick_f hb2 q0 qb) <| ov [500] (op_move q0) <| oe [500, 0] [] (GOk.on_eq rfl rfl rfl rfl (op_move q0)) <| oe [501, 500] [] (GOk.on_eq rfl rfl rfl rfl (op_bin bin_geq q0 qi)) <| oe [502, 500] [] (GOk.on_eq rfl rfl rfl rfl (op_move q0)) <| oe [500, 0] [] (GOk.on_eq hb5 rfl rfl rfl (op_move q0)) <| oe [501, 500] [] (GOk.on_eq hb5 rfl rfl rfl (op_bin bin_leq q0 qi)) <| oe [505, 502, 500] [] (GOk.on_eq rfl rfl rfl rfl (op_pick_t hb5 q0 q1)) <| ov [506, 500] (op_pick_f rfl q0 q1) <| ov [500] (op_assign q0) .nil) fun _ a w h => ?_
        exact ⟨decide (a_0 ≤ (969 : Int)), hF, h.sub [0] (by rfl)⟩
      · replace hF := ff_of hb5 hF
        refine reg mixed hn hG h [500] (ov [0] (op_move q0) <| ov [500] (op_bin bin_geq q0 qi) <| ov [500] (op_move q0) <| oe [500] [] (GOk.off_v (want := true) hb2 rfl rfl rfl rfl) <| oe [501] [] (GOk.off_v (want := true) hb2 rfl rfl rfl rfl) <| ov [502] (op_pick_f hb2 q0 qb) <| ov [500] (op_move q0) <| oe [500, 0] [] (GOk.on_eq rfl rfl rfl rfl (op_move q0)) <| oe [501, 500] [] (GOk.on_eq rfl rfl rfl rfl (op_bin bin_geq q0 qi)) <| oe [502, 500] [] (GOk.on_eq rfl rfl rfl rfl (op_move q0)) <| oe [500] [] (GOk.off_v (want := true) hb5 rfl rfl rfl rfl) <| oe [501] [] (GOk.off_v (want := true) hb5 rfl rfl rfl rfl) <| oe [505, 502] [] (GOk.on_eq rfl rfl rfl rfl (op_pick_f hb5 q0 qb)) <| ov [506, 500] (op_pick_f rfl q0 q1) <| ov [500] (op_assign q0) .nil) fun _ a w h => ?_
        exact ⟨false, hF, h.sub [0] (by rfl)⟩
  · clear h hF
    rintro a w ⟨x1, hF, h⟩
    unfold name_small.j1 at hF
    show Code.wp Tryd.prog _ _ a w
    refine wp_ret ?_
    obtain rfl := Option.some.inj hF
    exact ⟨.inl rfl, ret1 h Tryd.results68 (r_tmp 0 rfl) [] [] rfl rfl rfl⟩

def name_Right.j1 (a_0 : List UInt8) (x7 : Int) (x8 : Nat) (x19 : Bool) : Option (Flow Bool (Int × Nat)) := (if x19 = true then some (.ret false) else some (.cont (IntKind.wrap .i64 (x7 + 1), rxAt a_0 x8)))
def name_Right.b1 (a_0 : List UInt8) (x7 : Int) (x8 : Nat) : Option (Flow Bool (Int × Nat)) := (if (decide (x8 < a_0.length)) = true then (if x8 < a_0.length then ((name_small (rnAt a_0 x8)).bind fun r18 => (if (!r18) = true then (if (decide ((IntKind.wrap .i64 (x7 + 1)) = (1 : Int))) = true then name_Right.j1 a_0 x7 x8 true else (if (decide ((rnAt a_0 x8) < (48 : Int))) = true then name_Right.j1 a_0 x7 x8 true else name_Right.j1 a_0 x7 x8 (decide ((57 : Int) < (rnAt a_0 x8))))) else name_Right.j1 a_0 x7 x8 false)) else none) else some (.brk (x7, rxAt a_0 x8)))
def name_Right.j2 (x30 : Bool) : Option Bool := some x30
def name_Right (a_0 : List UInt8) : Option Bool := ((loopN (fun s : Int × Nat => name_Right.b1 a_0 s.1 s.2) (a_0.length + 2) (0, 0)).bind fun cr => match cr with | .ret r => some r | .next (y28, y29) => (if (decide ((0 : Int) < y28)) = true then name_Right.j2 (decide (y28 ≤ (12 : Int))) else name_Right.j2 false))
theorem name_Right_ok {a_0 : List UInt8} {r : Bool} (hF : name_Right a_0 = some r) : CallOk Tryd.prog KG 46 [(strVP a_0)] [] (fun _ => []) (boolVP r) := by
  refine CallOk.intro 34 Tryd.func46 rfl Tryd.ntmps46 (Nat.le_of_ble_eq_true rfl) ?_
  intro c a w hG hn h
  unfold name_Right at hF
  change SatL c [.slot 0 (strVP a_0)] a w at h
  refine regS mixed hn hG h [0] (ov [] (op_assign qb) .nil) fun _ a w h => ?_
  refine regS mixed hn hG h [0, 500] (ov [] (op_assign qi) .nil) fun _ a w h => ?_
  refine wp_seq ?_
  refine regS mixed hn hG h [1, 501, 500] (ov [0] (op_move q0) <| og [500] [] [.slot 7 1 100000 (fun v1_ _ => (eqVP v1_)), .res 1 100000 (fun v1_ _ => (strIt (v1_) a_0 0))] (GOk.plain (op_range_str Tryd.underlying9 q0) rfl) .nil) fun b1 a w h => ?_
  refine wp_block ?_
  obtain ⟨cr24, hl25, hF⟩ := bind_some hF
  refine wp_mono (wp_loopN (R := Bool) (S := Int × Nat) (fun s a w => SatL c [.slot 3 (intVP .i64 s.1), .slot 7 (eqVP (b1 1)), .res (strIt (b1 1) a_0 s.2)] a w) (fun res e a w => match res with | .next s => e = .exit 0 ∧ SatL c [.slot 3 (intVP .i64 s.1)] a w | .ret r => e = .ret ∧ RetOk Tryd.prog Tryd.f46 c (boolVP r) (fun _ => []) a w) ?_ _ (0, 0) _ _ _ (h.sub [0, 1, 2] (by rfl)) hl25) ?_
  · clear hl25 hF h
    intro s a w o h hF
    obtain ⟨x7, x8⟩ := s
    change name_Right.b1 a_0 x7 x8 = some o at hF
    unfold name_Right.b1 at hF
    change SatL c [.slot 3 (intVP .i64 x7), .slot 7 (eqVP (b1 1)), .res (strIt (b1 1) a_0 x8)] a w at h
    refine regS mixed hn hG h [0, 1, 502, 500, 501] (oe [1] [2] (GOk.plain (op_next_str 0 rfl) rfl) <| ov [501] (op_snx0 q0) .nil) fun _ a w h => ?_
    refine wp_seq ?_
    refine cnd h hF 3 [0, 1, 2, 4] [0, 1, 4] (fun hb16 hF h => ?_) (fun hb16 hF h => ?_)
    · refine wp_skip ?_
      show Code.wp Tryd.prog _ _ a w
      refine wp_block ?_
      obtain ⟨hv17, hF⟩ := ite_some hF
      refine regS mixed hn hG h [0, 500, 1, 3] (ov [2] (op_snx2 q0 hv17) <| ov [500] (op_assign q0) .nil) fun _ a w h => ?_
      refine regS mixed hn hG h [500, 1, 2, 3] (ov [0] (op_move q0) <| ov [500] (op_bin bin_add q0 qi) <| od [500] 0 (op_assign q0) .nil) fun _ a w h => ?_
      refine wp_seq ?_
      obtain ⟨r18, hr18, hF⟩ := bind_some hF
      refine wp_cut (fun a w => ∃ (x19 : Bool), name_Right.j1 a_0 x7 x8 x19 = some o ∧ SatL c [.slot 3 (intVP .i64 (IntKind.wrap .i64 (x7 + 1))), .slot 7 (eqVP (b1 1)), .slot 27 (boolVP x19), .res (strIt (b1 1) a_0 (rxAt a_0 x8))] a w) ?_ ?_
      · rcases Bool.eq_false_or_eq_true (!r18) with hb21 | hb21
        · replace hF := tt_of hb21 hF
          rcases Bool.eq_false_or_eq_true (decide ((IntKind.wrap .i64 (x7 + 1)) = (1 : Int))) with hb22 | hb22
          · replace hF := tt_of hb22 hF
            refine reg mixed hn hG h [0, 2, 500, 3] (ov [1] (op_move q0) <| oc [500] [] Tryd.call68 (name_small_ok hr18) ⟨q0, trivial⟩ <| ov [500] (op_un (un_not _) q0) <| ov [500] (op_move q0) <| oe [500, 0] [] (GOk.on_eq hb21 rfl rfl rfl (op_move q0)) <| oe [501, 500] [] (GOk.on_eq hb21 rfl rfl rfl (op_bin bin_eql q0 qi)) <| oe [502, 500] [] (GOk.on_eq hb21 rfl rfl rfl (op_move q0)) <| oe [500] [] (GOk.off_v (want := false) hb22 rfl rfl rfl rfl) <| oe [501] [] (GOk.off_v (want := false) hb22 rfl rfl rfl rfl) <| oe [505, 502] [] (GOk.on_eq hb21 rfl rfl rfl (op_pick_t hb22 q0 qb)) <| oe [506, 500] [] (GOk.on_eq hb21 rfl rfl rfl (op_move q0)) <| oe [500] [] (GOk.off_v (want := false) rfl rfl rfl rfl rfl) <| oe [501] [] (GOk.off_v (want := false) rfl rfl rfl rfl rfl) <| oe [509, 502] [] (GOk.on_eq hb21 rfl rfl rfl (op_pick_t rfl q0 qb)) <| ov [510, 500] (op_pick_t hb21 q0 q1) .nil) fun _ a w h => ?_
            exact ⟨true, hF, h.sub [0, 1, 2, 3] (by rfl)⟩
          · replace hF := ff_of hb22 hF
            rcases Bool.eq_false_or_eq_true (decide ((rnAt a_0 x8) < (48 : Int))) with hb23 | hb23
            · replace hF := tt_of hb23 hF
              refine reg mixed hn hG h [0, 2, 500, 3] (ov [1] (op_move q0) <| oc [500] [] Tryd.call68 (name_small_ok hr18) ⟨q0, trivial⟩ <| ov [500] (op_un (un_not _) q0) <| ov [500] (op_move q0) <| oe [500, 0] [] (GOk.on_eq hb21 rfl rfl rfl (op_move q0)) <| oe [501, 500] [] (GOk.on_eq hb21 rfl rfl rfl (op_bin bin_eql q0 qi)) <| oe [502, 500] [] (GOk.on_eq hb21 rfl rfl rfl (op_move q0)) <| oe [500, 1] [] (GOk.on_eq hb22 rfl rfl rfl (op_move q0)) <| oe [501, 500] [] (GOk.on_eq hb22 rfl rfl rfl (op_bin bin_lss q0 qi)) <| oe [505, 502, 500] [] (GOk.on_eq hb21 rfl rfl rfl (op_pick_f hb22 q0 q1)) <| oe [506, 500] [] (GOk.on_eq hb21 rfl rfl rfl (op_move q0)) <| oe [500] [] (GOk.off_v (want := false) hb23 rfl rfl rfl rfl) <| oe [501] [] (GOk.off_v (want := false) hb23 rfl rfl rfl rfl) <| oe [509, 502] [] (GOk.on_eq hb21 rfl rfl rfl (op_pick_t hb23 q0 qb)) <| ov [510, 500] (op_pick_t hb21 q0 q1) .nil) fun _ a w h => ?_
              exact ⟨true, hF, h.sub [0, 1, 2, 3] (by rfl)⟩
            · replace hF := ff_of hb23 hF
              refine reg mixed hn hG h [0, 2, 500, 3] (ov [1] (op_move q0) <| oc [500] [] Tryd.call68 (name_small_ok hr18) ⟨q0, trivial⟩ <| ov [500] (op_un (un_not _) q0) <| ov [500] (op_move q0) <| oe [500, 0] [] (GOk.on_eq hb21 rfl rfl rfl (op_move q0)) <| oe [501, 500] [] (GOk.on_eq hb21 rfl rfl rfl (op_bin bin_eql q0 qi)) <| oe [502, 500] [] (GOk.on_eq hb21 rfl rfl rfl (op_move q0)) <| oe [500, 1] [] (GOk.on_eq hb22 rfl rfl rfl (op_move q0)) <| oe [501, 500] [] (GOk.on_eq hb22 rfl rfl rfl (op_bin bin_lss q0 qi)) <| oe [505, 502, 500] [] (GOk.on_eq hb21 rfl rfl rfl (op_pick_f hb22 q0 q1)) <| oe [506, 500] [] (GOk.on_eq hb21 rfl rfl rfl (op_move q0)) <| oe [500, 1] [] (GOk.on_eq hb23 rfl rfl rfl (op_move q0)) <| oe [501, 500] [] (GOk.on_eq hb23 rfl rfl rfl (op_bin bin_gtr q0 qi)) <| oe [509, 502, 500] [] (GOk.on_eq hb21 rfl rfl rfl (op_pick_f hb23 q0 q1)) <| ov [510, 500] (op_pick_t hb21 q0 q1) .nil) fun _ a w h => ?_
              exact ⟨decide ((57 : Int) < (rnAt a_0 x8)), hF, h.sub [0, 1, 2, 3] (by rfl)⟩
        · replace hF := ff_of hb21 hF
          refine reg mixed hn hG h [0, 2, 500, 3] (ov [1] (op_move q0) <| oc [500] [] Tryd.call68 (name_small_ok hr18) ⟨q0, trivial⟩ <| ov [500] (op_un (un_not _) q0) <| ov [500] (op_move q0) <| oe [500] [] (GOk.off_v (want := true) hb21 rfl rfl rfl rfl) <| oe [501] [] (GOk.off_v (want := true) hb21 rfl rfl rfl rfl) <| oe [502] [] (GOk.off_v (want := true) hb21 rfl rfl rfl rfl) <| oe [500] [] (GOk.off_u rfl rfl rfl rfl) <| oe [501] [] (GOk.off_u rfl rfl rfl rfl) <| oe [505] [] (GOk.off_v (want := true) hb21 rfl rfl rfl rfl) <| oe [506] [] (GOk.off_v (want := true) hb21 rfl rfl rfl rfl) <| oe [500] [] (GOk.off_u rfl rfl rfl rfl) <| oe [501] [] (GOk.off_u rfl rfl rfl rfl) <| oe [509] [] (GOk.off_v (want := true) hb21 rfl rfl rfl rfl) <| ov [510] (op_pick_f hb21 q0 qb) .nil) fun _ a w h => ?_
          exact ⟨false, hF, h.sub [0, 1, 2, 3] (by rfl)⟩
      · clear h hF
        rintro a w ⟨x19, hF, h⟩
        unfold name_Right.j1 at hF
        show Code.wp Tryd.prog _ _ a w
        refine cnd h hF 2 [] [0, 1, 3] (fun hb20 hF h => ?_) (fun hb20 hF h => ?_)
        · refine regS mixed hn hG h [500] (ov [] (op_assign qb) .nil) fun _ a w h => ?_
          refine wp_ret ?_
          obtain rfl := Option.some.inj hF
          exact ⟨ret_ne, rfl, ret1 h Tryd.results46 (r_tmp 0 rfl) [] [] rfl rfl rfl⟩
        · refine wp_skip ?_
          obtain rfl := Option.some.inj hF
          exact ⟨rfl, h.sub [0, 1, 2] (by rfl)⟩
    · refine wp_exit ?_
      obtain rfl := Option.some.inj hF
      exact ⟨exit_ne _, rfl, h.sub [0] (by rfl)⟩
  · clear hl25
    intro e a w hq
    cases cr24 with
    | ret r26 =>
      obtain ⟨rfl, hq⟩ := hq
      obtain rfl := Option.some.inj hF
      exact ⟨.inl rfl, hq⟩
    | next s27 =>
      obtain ⟨y28, y29⟩ := s27
      obtain ⟨rfl, h⟩ := hq
      change SatL c [.slot 3 (intVP .i64 y28)] a w at h
      refine inBlock_at ?_
      show Code.wp Tryd.prog _ _ a w
      refine wp_seq ?_
      refine wp_cut (fun a w => ∃ (x30 : Bool), name_Right.j2 x30 = some r ∧ SatL c [.slot 2 (boolVP x30)] a w) ?_ ?_
      · rcases Bool.eq_false_or_eq_true (decide ((0 : Int) < y28)) with hb31 | hb31
        · replace hF := tt_of hb31 hF
          refine reg mixed hn hG h [500] (ov [0] (op_move q0) <| ov [500] (op_bin bin_gtr q0 qi) <| ov [500] (op_move q0) <| oe [500, 0] [] (GOk.on_eq hb31 rfl rfl rfl (op_move q0)) <| oe [501, 500] [] (GOk.on_eq hb31 rfl rfl rfl (op_bin bin_leq q0 qi)) <| ov [502, 500] (op_pick_t hb31 q0 q1) <| ov [500] (op_assign q0) .nil) fun _ a w h => ?_
          exact ⟨decide (y28 ≤ (12 : Int)), hF, h.sub [0] (by rfl)⟩
        · replace hF := ff_of hb31 hF
          refine reg mixed hn hG h [500] (ov [0] (op_move q0) <| ov [500] (op_bin bin_gtr q0 qi) <| ov [500] (op_move q0) <| oe [500] [] (GOk.off_v (want := true) hb31 rfl rfl rfl rfl) <| oe [501] [] (GOk.off_v (want := true) hb31 rfl rfl rfl rfl) <| ov [502] (op_pick_f hb31 q0 qb) <| ov [500] (op_assign q0) .nil) fun _ a w h => ?_
          exact ⟨false, hF, h.sub [0] (by rfl)⟩
      · clear h hF
        rintro a w ⟨x30, hF, h⟩
        unfold name_Right.j2 at hF
        show Code.wp Tryd.prog _ _ a w
        refine wp_ret ?_
        obtain rfl := Option.some.inj hF
        exact ⟨.inl rfl, ret1 h Tryd.results46 (r_tmp 0 rfl) [] [] rfl rfl rfl⟩

def name_broken (a_0 : List UInt8) (a_1 : Int) (a_2 : Int) : Option Bool := (if (!decide (a_2 = (65533 : Int))) = true then some false else none)
theorem name_broken_ok {a_0 : List UInt8} {a_1 : Int} {a_2 : Int} {r : Bool} (hF : name_broken a_0 a_1 a_2 = some r) : CallOk Tryd.prog KG 87 [(strVP a_0), (intVP .i64 a_1), (intVP .i32 a_2)] [] (fun _ => []) (boolVP r) := by
  refine CallOk.intro 20 Tryd.func87 rfl Tryd.ntmps87 (Nat.le_of_ble_eq_true rfl) ?_
  intro c a w hG hn h
  unfold name_broken at hF
  change SatL c [.slot 0 (strVP a_0), .slot 1 (intVP .i64 a_1), .slot 2 (intVP .i32 a_2)] a w at h
  refine regS mixed hn hG h [0, 1, 2] (ov [] (op_assign qb) .nil) fun _ a w h => ?_
  refine wp_seq ?_
  refine regS mixed hn hG h [0, 1, 500] (ov [2] (op_move q0) <| ov [500] (op_bin bin_neq q0 qi) .nil) fun _ a w h => ?_
  refine cnd h hF 2 [] [0, 1] (fun hb1 hF h => ?_) (fun hb1 hF h => ?_)
  · refine regS mixed hn hG h [500] (ov [] (op_assign qb) .nil) fun _ a w h => ?_
    refine wp_ret ?_
    obtain rfl := Option.some.inj hF
    exact ⟨.inl rfl, ret1 h Tryd.results87 (r_tmp 0 rfl) [] [] rfl rfl rfl⟩
  · cases hF

def name_keys.j1 (a_0 : List UInt8) (x18 : Nat) (x19 : List (Int)) (x35 : Int) : Option (Flow (List (Int)) (Nat × (List (Int)))) := (if x19.length + [x35].length ≤ mxl ∧ (x19.length + [x35].length) * 4 ≤ 140737488355328 then some (.cont (rxAt a_0 x18, x19 ++ [x35])) else none)
def name_keys.b1 (a_0 : List UInt8) (x18 : Nat) (x19 : List (Int)) : Option (Flow (List (Int)) (Nat × (List (Int)))) := (if (decide (x18 < a_0.length)) = true then (if x18 < a_0.length then ((name_broken a_0 (x18 : Int) (rnAt a_0 x18)).bind fun r33 => (if r33 = true then (if (0 : Int) ≤ (x18 : Int) ∧ (x18 : Int) < a_0.length then name_keys.j1 a_0 x18 x19 (IntKind.wrap .i32 ((IntKind.wrap .i32 ((a_0.getD (x18 : Int).toNat 0).toNat)) + 2000000)) else none) else name_keys.j1 a_0 x18 x19 (rnAt a_0 x18))) else none) else some (.brk (rxAt a_0 x18, x19)))
def name_keys (a_0 : List UInt8) : Option (List (Int)) := ((loopN (fun s : Nat × (List (Int)) => name_keys.b1 a_0 s.1 s.2) (a_0.length + 2) (0, [])).bind fun cr => match cr with | .ret r => some r | .next (y44, y45) => some y45)
theorem name_keys_ok {a_0 : List UInt8} {r : (List (Int))} (hF : name_keys a_0 = some r) : CallOk Tryd.prog KG 82 [(strVP a_0)] [] (fun _ => []) (slVP (iC .i32) r) := by
  refine CallOk.intro 26 Tryd.func82 rfl Tryd.ntmps82 (Nat.le_of_ble_eq_true rfl) ?_
  intro c a w hG hn h
  unfold name_keys at hF
  change SatL c [.slot 0 (strVP a_0)] a w at h
  refine regS mixed hn hG h [0] (ov [] (op_assign (opc (ec _))) .nil) fun _ a w h => ?_
  refine regS mixed hn hG h [0, 500] (ov [] (op_assign (opc (ec _))) .nil) fun _ a w h => ?_
  refine wp_seq ?_
  refine regS mixed hn hG h [0, 1, 501, 500] (ov [0] (op_move q0) <| og [500] [] [.slot 7 1 100000 (fun v1_ _ => (eqVP v1_)), .res 1 100000 (fun v1_ _ => (strIt (v1_) a_0 0))] (GOk.plain (op_range_str Tryd.underlying9 q0) rfl) .nil) fun b1 a w h => ?_
  refine wp_block ?_
  obtain ⟨q10, h⟩ : ∃ q10 : Value, SatL c [.slot 0 (strVP a_0), .slot 3 (eqVP q10), .slot 7 (eqVP (b1 1)), .res (strIt (b1 1) a_0 0), .res (acc q10 21 1 (iC .i32) [])] a w := ⟨.slice none 0 0, (h.nilacc 21 1 (iC .i32)).sub [0, 1, 2, 3, 4] (by rfl)⟩
  obtain ⟨cr40, hl41, hF⟩ := bind_some hF
  refine wp_mono (wp_loopN (R := (List (Int))) (S := Nat × (List (Int))) (fun s a w => ∃ q20 : Value, SatL c [.slot 0 (strVP a_0), .slot 3 (eqVP q20), .slot 7 (eqVP (b1 1)), .res (strIt (b1 1) a_0 s.1), .res (acc q20 21 1 (iC .i32) s.2)] a w) (fun res e a w => match res with | .next s => e = .exit 0 ∧ ∃ q20 : Value, SatL c [.slot 3 (eqVP q20), .res (acc q20 21 1 (iC .i32) s.2)] a w | .ret r => e = .ret ∧ RetOk Tryd.prog Tryd.f82 c (slVP (iC .i32) r) (fun _ => []) a w) ?_ _ (0, []) _ _ _ ⟨q10, (h.sub [0, 1, 2, 3, 4] (by rfl))⟩ hl41) ?_
  · clear hl41 hF h
    intro s a w o h hF
    obtain ⟨x18, x19⟩ := s
    obtain ⟨q20, h⟩ := h
    change name_keys.b1 a_0 x18 x19 = some o at hF
    unfold name_keys.b1 at hF
    change SatL c [.slot 0 (strVP a_0), .slot 3 (eqVP q20), .slot 7 (eqVP (b1 1)), .res (strIt (b1 1) a_0 x18), .res (acc q20 21 1 (iC .i32) x19)] a w at h
    refine regS mixed hn hG h [0, 1, 2, 502, 500, 501, 4] (oe [2] [3] (GOk.plain (op_next_str 0 rfl) rfl) <| ov [501] (op_snx0 q0) .nil) fun _ a w h => ?_
    refine wp_seq ?_
    refine cnd h hF 4 [0, 1, 2, 3, 5, 6] [0, 1, 2, 5, 6] (fun hb31 hF h => ?_) (fun hb31 hF h => ?_)
    · refine wp_skip ?_
      show Code.wp Tryd.prog _ _ a w
      refine wp_block ?_
      obtain ⟨hv32, hF⟩ := ite_some hF
      refine regS mixed hn hG h [0, 1, 501, 500, 2, 4, 5] (ov [3] (op_snx1 q0 hv32) <| ov [3] (op_snx2 q0 hv32) <| ov [501] (op_assign q0) <| ov [501] (op_assign q0) .nil) fun _ a w h => ?_
      refine wp_seq ?_
      obtain ⟨r33, hr33, hF⟩ := bind_some hF
      refine regS mixed hn hG h [0, 1, 2, 3, 4, 500, 5, 6] (ov [0] (op_move q0) <| ov [2] (op_move q0) <| ov [3] (op_move q0) <| oc [502, 501, 500] [] Tryd.call87 (name_broken_ok hr33) ⟨q0, q1, q2, trivial⟩ .nil) fun _ a w h => ?_
      refine wp_cut (fun a w => ∃ (x35 : Int), name_keys.j1 a_0 x18 x19 x35 = some o ∧ SatL c [.slot 0 (strVP a_0), .slot 3 (eqVP q20), .slot 5 (intVP .i32 x35), .slot 7 (eqVP (b1 1)), .res (strIt (b1 1) a_0 (rxAt a_0 x18)), .res (acc q20 21 1 (iC .i32) x19)] a w) ?_ ?_
      · refine cnd h hF 5 [0, 1, 2, 4, 6, 7] [0, 1, 3, 4, 6, 7] (fun hb38 hF h => ?_) (fun hb38 hF h => ?_)
        · obtain ⟨hv39, hF⟩ := ite_some hF
          refine reg mixed hn hG h [0, 1, 500, 3, 4, 5] (ov [0] (op_move q0) <| ov [2] (op_move q0) <| ov [501, 500] (op_index_str Tryd.underlying9 q0 q1 hv39) <| ov [500] (op_convert_int Tryd.underlying5 Tryd.underlying21 q0) <| ov [500] (op_bin bin_add q0 qi) <| ov [500] (op_assign q0) .nil) fun _ a w h => ?_
          exact ⟨IntKind.wrap .i32 ((IntKind.wrap .i32 ((a_0.getD (x18 : Int).toNat 0).toNat)) + 2000000), hF, h.sub [0, 1, 2, 3, 4, 5] (by rfl)⟩
        · refine wp_skip ?_
          exact ⟨rnAt a_0 x18, hF, h.sub [0, 1, 2, 3, 4, 5] (by rfl)⟩
      · clear h hF
        rintro a w ⟨x35, hF, h⟩
        unfold name_keys.j1 at hF
        show Code.wp Tryd.prog _ _ a w
        obtain ⟨hv36, hF⟩ := ite_some hF
        refine reg mixed hn hG h [0, 500, 3, 4, 501] (ov [1] (op_move q0) <| ov [2] (op_move q0) <| ov [500] (op_lit (xs := [.tmp 22]) (ys := [x35]) _ rfl Tryd.underlying143 Tryd.sizeOf21 Tryd.zeroValue21 rfl rfl (by decide) (by decide) ⟨⟨_, q0, (cells_one (one_int _ _))⟩, trivial⟩ (lens_iC .i32)) <| og [502, 500] [5] [.slot 24 3 100000 (fun v1_ _ => (eqVP v1_)), .res 3 100000 (fun v1_ _ => (acc (v1_) 21 1 (iC .i32) (x19 ++ [x35])))] (GOk.plain (op_append (i := Tryd.t21) Tryd.underlying143 Tryd.type21 rfl (lens_iC .i32) (by decide) rfl q0 q1 hv36) rfl) <| og [501] [1] [.slot 3 3 100000 (fun v1_ _ => (eqVP v1_))] (fun {β} => (GOk.drop _ (GOk.plain (op_assign (V := (eqVP (β 3))) q0) rfl))) .nil) fun b37 a w h => ?_
        obtain rfl := Option.some.inj hF
        exact ⟨rfl, (b37 3), h.sub [0, 1, 2, 3, 4] (by rfl)⟩
    · refine wp_exit ?_
      obtain rfl := Option.some.inj hF
      exact ⟨exit_ne _, rfl, q20, h.sub [1, 4] (by rfl)⟩
  · clear hl41
    intro e a w hq
    cases cr40 with
    | ret r42 =>
      obtain ⟨rfl, hq⟩ := hq
      obtain rfl := Option.some.inj hF
      exact ⟨.inl rfl, hq⟩
    | next s43 =>
      obtain ⟨y44, y45⟩ := s43
      obtain ⟨rfl, q20, h⟩ := hq
      change SatL c [.slot 3 (eqVP q20), .res (acc q20 21 1 (iC .i32) y45)] a w at h
      refine inBlock_at ?_
      show Code.wp Tryd.prog _ _ a w
      refine regS mixed hn hG h [500, 1] (ov [0] (op_move q0) <| ov [500] (op_assign q0) .nil) fun _ a w h => ?_
      refine wp_ret ?_
      obtain rfl := Option.some.inj hF
      exact ⟨.inl rfl, ret1 h Tryd.results82 (r_acc 0 1 rfl rfl) [] [] rfl rfl rfl⟩

def name_Order.b1 (r1 : (List (Int))) (r2 : (List (Int))) (x10 : Int) : Option (Flow Int Int) := (if (decide (x10 < (if (r2.length : Int) < (r1.length : Int) then (r2.length : Int) else (r1.length : Int)))) = true then (if (0 : Int) ≤ x10 ∧ x10 < r1.length then (if (0 : Int) ≤ x10 ∧ x10 < r2.length then (if (decide ((r1.getD x10.toNat default) < (r2.getD x10.toNat default))) = true then some (.ret (-1 : Int)) else (if (0 : Int) ≤ x10 ∧ x10 < r1.length then (if (0 : Int) ≤ x10 ∧ x10 < r2.length then (if (decide ((r2.getD x10.toNat default) < (r1.getD x10.toNat default))) = true then some (.ret 1) else some (.cont (IntKind.wrap .i64 (x10 + 1)))) else none) else none)) else none) else none) else some (.brk x10))
def name_Order (a_0 : List UInt8) (a_1 : List UInt8) : Option Int := ((name_keys a_0).bind fun r1 => ((name_keys a_1).bind fun r2 => ((loopN (fun s : Int => name_Order.b1 r1 r2 s) (((if (r2.length : Int) < (r1.length : Int) then (r2.length : Int) else (r1.length : Int)) - 0 : Int).toNat + 2) 0).bind fun cr => match cr with | .ret r => some r | .next y30 => (if (decide ((r1.length : Int) < (r2.length : Int))) = true then some (-1 : Int) else (if (decide ((r2.length : Int) < (r1.length : Int))) = true then some 1 else some 0)))))
theorem name_Order_ok {a_0 : List UInt8} {a_1 : List UInt8} {r : Int} (hF : name_Order a_0 a_1 = some r) : CallOk Tryd.prog KG 70 [(strVP a_0), (strVP a_1)] [] (fun _ => []) (intVP .i64 r) := by
  refine CallOk.intro 53 Tryd.func70 rfl Tryd.ntmps70 (Nat.le_of_ble_eq_true rfl) ?_
  intro c a w hG hn h
  unfold name_Order at hF
  change SatL c [.slot 0 (strVP a_0), .slot 1 (strVP a_1)] a w at h
  refine regS mixed hn hG h [0, 1] (ov [] (op_assign qi) .nil) fun _ a w h => ?_
  obtain ⟨r1, hr1, hF⟩ := bind_some hF
  obtain ⟨r2, hr2, hF⟩ := bind_some hF
  refine regS mixed hn hG h [501, 500] (ov [0] (op_move q0) <| oc [500] [] Tryd.call82 (name_keys_ok hr1) ⟨q0, trivial⟩ <| ov [1] (op_move q0) <| oc [500] [] Tryd.call82 (name_keys_ok hr2) ⟨q0, trivial⟩ <| ov [502] (op_assign q0) <| ov [501] (op_assign q0) .nil) fun _ a w h => ?_
  refine wp_seq ?_
  refine regS mixed hn hG h [0, 1, 501, 500] (ov [0] (op_move q0) <| ov [500] (op_len_sl Tryd.underlying143 q0) <| ov [1] (op_move q0) <| ov [500] (op_len_sl Tryd.underlying143 q0) <| ov [502, 500] (op_min q0 q1) <| ov [] (op_move qi) .nil) fun _ a w h => ?_
  refine wp_block ?_
  obtain ⟨cr26, hl27, hF⟩ := bind_some hF
  refine wp_mono (wp_loopN (R := Int) (S := Int) (fun s a w => SatL c [.slot 5 (slVP (iC .i32) r1), .slot 6 (slVP (iC .i32) r2), .slot 16 (intVP .i64 (if (r2.length : Int) < (r1.length : Int) then (r2.length : Int) else (r1.length : Int))), .slot 17 (intVP .i64 s)] a w) (fun res e a w => match res with | .next s => e = .exit 0 ∧ SatL c [.slot 5 (slVP (iC .i32) r1), .slot 6 (slVP (iC .i32) r2)] a w | .ret r => e = .ret ∧ RetOk Tryd.prog Tryd.f70 c (intVP .i64 r) (fun _ => []) a w) ?_ _ 0 _ _ _ (h.sub [0, 1, 2, 3] (by rfl)) hl27) ?_
  · clear hl27 hF h
    intro x10 a w o h hF
    change name_Order.b1 r1 r2 x10 = some o at hF
    unfold name_Order.b1 at hF
    change SatL c [.slot 5 (slVP (iC .i32) r1), .slot 6 (slVP (iC .i32) r2), .slot 16 (intVP .i64 (if (r2.length : Int) < (r1.length : Int) then (r2.length : Int) else (r1.length : Int))), .slot 17 (intVP .i64 x10)] a w at h
    refine regS mixed hn hG h [0, 1, 2, 3, 500] (ov [3, 2] (op_bin bin_lss q0 q1) .nil) fun _ a w h => ?_
    refine wp_seq ?_
    refine cnd h hF 4 [0, 1, 2, 3] [0, 1, 2, 3] (fun hb19 hF h => ?_) (fun hb19 hF h => ?_)
    · refine wp_skip ?_
      show Code.wp Tryd.prog _ _ a w
      refine wp_seq ?_
      refine wp_block ?_
      refine regS mixed hn hG h [0, 1, 500, 2, 3] (ov [3] (op_move q0) <| ov [500] (op_assign q0) .nil) fun _ a w h => ?_
      refine wp_block ?_
      obtain ⟨hv20, hF⟩ := ite_some hF
      obtain ⟨hv21, hF⟩ := ite_some hF
      refine regS mixed hn hG h [0, 1, 2, 3, 4, 500] (ov [0] (op_move q0) <| ov [2] (op_move q0) <| ov [501, 500] (op_indexAddr_sl Tryd.underlying143 Tryd.sizeOf21 (lens_iC .i32) q0 q1 hv20) <| ov [500] (op_load_pp1 [] Tryd.isAgg21 q0) <| ov [1] (op_move q0) <| ov [2] (op_move q0) <| ov [501, 500] (op_indexAddr_sl Tryd.underlying143 Tryd.sizeOf21 (lens_iC .i32) q0 q1 hv21) <| ov [500] (op_load_pp1 [] Tryd.isAgg21 q0) <| ov [504, 500] (op_bin bin_lss q0 q1) <| ov [500] (op_assign q0) .nil) fun _ a w h => ?_
      refine cnd h hF 5 [] [0, 1, 2, 3, 4] (fun hb22 hF h => ?_) (fun hb22 hF h => ?_)
      · refine regS mixed hn hG h [500] (ov [] (op_assign qi) .nil) fun _ a w h => ?_
        refine wp_ret ?_
        obtain rfl := Option.some.inj hF
        exact ⟨ret_ne, rfl, ret1 h Tryd.results70 (r_tmp 0 rfl) [] [] rfl rfl rfl⟩
      · obtain ⟨hv23, hF⟩ := ite_some hF
        obtain ⟨hv24, hF⟩ := ite_some hF
        refine regS mixed hn hG h [0, 1, 3, 4, 500] (ov [0] (op_move q0) <| ov [2] (op_move q0) <| ov [501, 500] (op_indexAddr_sl Tryd.underlying143 Tryd.sizeOf21 (lens_iC .i32) q0 q1 hv23) <| ov [500] (op_load_pp1 [] Tryd.isAgg21 q0) <| ov [1] (op_move q0) <| ov [2] (op_move q0) <| ov [501, 500] (op_indexAddr_sl Tryd.underlying143 Tryd.sizeOf21 (lens_iC .i32) q0 q1 hv24) <| ov [500] (op_load_pp1 [] Tryd.isAgg21 q0) <| ov [504, 500] (op_bin bin_gtr q0 q1) <| ov [500] (op_assign q0) .nil) fun _ a w h => ?_
        refine cnd h hF 4 [] [0, 1, 2, 3] (fun hb25 hF h => ?_) (fun hb25 hF h => ?_)
        · refine regS mixed hn hG h [500] (ov [] (op_assign qi) .nil) fun _ a w h => ?_
          refine wp_ret ?_
          obtain rfl := Option.some.inj hF
          exact ⟨ret_ne, rfl, ret1 h Tryd.results70 (r_tmp 0 rfl) [] [] rfl rfl rfl⟩
        · refine wp_skip ?_
          show Code.wp Tryd.prog _ _ a w
          refine reg mixed hn hG h [0, 1, 2, 500] (ov [3] (op_bin bin_add q0 qi) <| od [500] 3 (op_move q0) .nil) fun _ a w h => ?_
          obtain rfl := Option.some.inj hF
          exact ⟨rfl, h.sub [0, 1, 2, 3] (by rfl)⟩
    · refine wp_exit ?_
      obtain rfl := Option.some.inj hF
      exact ⟨exit_ne _, rfl, h.sub [0, 1] (by rfl)⟩
  · clear hl27
    intro e a w hq
    cases cr26 with
    | ret r28 =>
      obtain ⟨rfl, hq⟩ := hq
      obtain rfl := Option.some.inj hF
      exact ⟨.inl rfl, hq⟩
    | next y30 =>
      obtain ⟨rfl, h⟩ := hq
      change SatL c [.slot 5 (slVP (iC .i32) r1), .slot 6 (slVP (iC .i32) r2)] a w at h
      refine inBlock_at ?_
      show Code.wp Tryd.prog _ _ a w
      refine wp_seq ?_
      refine wp_block ?_
      refine regS mixed hn hG h [0, 1, 500] (ov [0] (op_move q0) <| ov [500] (op_len_sl Tryd.underlying143 q0) <| ov [1] (op_move q0) <| ov [500] (op_len_sl Tryd.underlying143 q0) <| ov [502, 500] (op_bin bin_lss q0 q1) <| ov [500] (op_assign q0) .nil) fun _ a w h => ?_
      refine cnd h hF 2 [] [0, 1] (fun hb31 hF h => ?_) (fun hb31 hF h => ?_)
      · refine regS mixed hn hG h [500] (ov [] (op_assign qi) .nil) fun _ a w h => ?_
        refine wp_ret ?_
        obtain rfl := Option.some.inj hF
        exact ⟨.inl rfl, ret1 h Tryd.results70 (r_tmp 0 rfl) [] [] rfl rfl rfl⟩
      · refine regS mixed hn hG h [500] (ov [0] (op_move q0) <| ov [500] (op_len_sl Tryd.underlying143 q0) <| ov [1] (op_move q0) <| ov [500] (op_len_sl Tryd.underlying143 q0) <| ov [502, 500] (op_bin bin_gtr q0 q1) <| ov [500] (op_assign q0) .nil) fun _ a w h => ?_
        refine cnd h hF 0 [] [] (fun hb32 hF h => ?_) (fun hb32 hF h => ?_)
        · refine regS mixed hn hG h [500] (ov [] (op_assign qi) .nil) fun _ a w h => ?_
          refine wp_ret ?_
          obtain rfl := Option.some.inj hF
          exact ⟨.inl rfl, ret1 h Tryd.results70 (r_tmp 0 rfl) [] [] rfl rfl rfl⟩
        · refine wp_skip ?_
          show Code.wp Tryd.prog _ _ a w
          refine regS mixed hn hG h [500] (ov [] (op_assign qi) .nil) fun _ a w h => ?_
          refine wp_ret ?_
          obtain rfl := Option.some.inj hF
          exact ⟨.inl rfl, ret1 h Tryd.results70 (r_tmp 0 rfl) [] [] rfl rfl rfl⟩

def purse_before.j1 (x4 : Bool) : Option Bool := some x4
def purse_before (a_0 : S_purse_key) (a_1 : S_purse_key) : Option Bool := (if (decide (a_0.f_origin < a_1.f_origin)) = true then purse_before.j1 true else (if (decide (a_0.f_origin = a_1.f_origin)) = true then ((name_Order a_0.f_name a_1.f_name).bind fun r3 => purse_before.j1 (decide (r3 < (0 : Int)))) else purse_before.j1 false))
theorem purse_before_ok {a_0 : S_purse_key} {a_1 : S_purse_key} {r : Bool} (hF : purse_before a_0 a_1 = some r) : CallOk Tryd.prog KG 50 [(aggVP [one (intVP .u32 a_0.f_origin), one (strVP a_0.f_name)]), (aggVP [one (intVP .u32 a_1.f_origin), one (strVP a_1.f_name)])] [] (fun _ => []) (boolVP r) := by
  refine CallOk.intro 25 Tryd.func50 rfl Tryd.ntmps50 (Nat.le_of_ble_eq_true rfl) ?_
  intro c a w hG hn h
  unfold purse_before at hF
  change SatL c [.slot 0 (aggVP [one (intVP .u32 a_0.f_origin), one (strVP a_0.f_name)]), .slot 1 (aggVP [one (intVP .u32 a_1.f_origin), one (strVP a_1.f_name)])] a w at h
  refine regS mixed hn hG h [504, 502, 503, 501] (ob [0] (op_box q0 (cells_agg _)) <| ob [1] (op_box q0 (cells_agg _)) <| ov [] (op_assign qb) .nil) fun b1 a w h => ?_
  refine wp_seq ?_
  refine wp_cut (fun a w => ∃ (x4 : Bool), purse_before.j1 x4 = some r ∧ SatL c [.slot 4 (boolVP x4)] a w) ?_ ?_
  · rcases Bool.eq_false_or_eq_true (decide (a_0.f_origin < a_1.f_origin)) with hb5 | hb5
    · replace hF := tt_of hb5 hF
      refine reg mixed hn hG h [500] (ov [0] (op_fieldAddr_lbm (p := (b1 0)) (n := 1) 0 0 Tryd.underlying104 rfl Tryd.sizeOf22 (by decide) q0 rfl) <| ov [500, 2] (op_load_lb1 [] [one (strVP a_0.f_name)] 1 Tryd.isAgg22 q0 rfl rfl) <| ov [1] (op_fieldAddr_lbm (p := (b1 1)) (n := 1) 0 0 Tryd.underlying104 rfl Tryd.sizeOf22 (by decide) q0 rfl) <| ov [500, 3] (op_load_lb1 [] [one (strVP a_1.f_name)] 1 Tryd.isAgg22 q0 rfl rfl) <| ov [502, 500] (op_bin bin_lss q0 q1) <| ov [500] (op_move q0) <| oe [500] [] (GOk.off_v (want := false) hb5 rfl rfl rfl rfl) <| oe [501] [] (GOk.off_v (want := false) hb5 rfl rfl rfl rfl) <| oe [502] [] (GOk.off_v (want := false) hb5 rfl rfl rfl rfl) <| oe [503] [] (GOk.off_v (want := false) hb5 rfl rfl rfl rfl) <| oe [504] [] (GOk.off_v (want := false) hb5 rfl rfl rfl rfl) <| oe [505] [] (GOk.off_v (want := false) hb5 rfl rfl rfl rfl) <| oe [500] [] (GOk.off_u rfl rfl rfl rfl) <| oe [501] [] (GOk.off_u rfl rfl rfl rfl) <| oe [502] [] (GOk.off_u rfl rfl rfl rfl) <| oe [503] [] (GOk.off_u rfl rfl rfl rfl) <| oe [504] [] (GOk.off_u rfl rfl rfl rfl) <| oe [505] [] (GOk.off_u rfl rfl rfl rfl) <| oe [512] [] (GOk.off_v (want := false) hb5 rfl rfl rfl rfl) <| ov [513] (op_pick_t hb5 q0 qb) <| ov [500] (op_assign q0) .nil) fun _ a w h => ?_
      exact ⟨true, hF, h.sub [0] (by rfl)⟩
    · replace hF := ff_of hb5 hF
      rcases Bool.eq_false_or_eq_true (decide (a_0.f_origin = a_1.f_origin)) with hb6 | hb6
      · replace hF := tt_of hb6 hF
        obtain ⟨r3, hr3, hF⟩ := bind_some hF
        refine reg mixed hn hG h [500] (ov [0] (op_fieldAddr_lbm (p := (b1 0)) (n := 1) 0 0 Tryd.underlying104 rfl Tryd.sizeOf22 (by decide) q0 rfl) <| ov [500, 2] (op_load_lb1 [] [one (strVP a_0.f_name)] 1 Tryd.isAgg22 q0 rfl rfl) <| ov [1] (op_fieldAddr_lbm (p := (b1 1)) (n := 1) 0 0 Tryd.underlying104 rfl Tryd.sizeOf22 (by decide) q0 rfl) <| ov [500, 3] (op_load_lb1 [] [one (strVP a_1.f_name)] 1 Tryd.isAgg22 q0 rfl rfl) <| ov [502, 500] (op_bin bin_lss q0 q1) <| ov [500] (op_move q0) <| oe [500, 0] [] (GOk.on_eq hb5 rfl rfl rfl (op_fieldAddr_lbm (p := (b1 0)) (n := 1) 0 0 Tryd.underlying104 rfl Tryd.sizeOf22 (by decide) q0 rfl)) <| oe [501, 500, 2] [] (GOk.on_eq hb5 rfl rfl rfl (op_load_lb1 [] [one (strVP a_0.f_name)] 1 Tryd.isAgg22 q0 rfl rfl)) <| oe [502, 1] [] (GOk.on_eq hb5 rfl rfl rfl (op_fieldAddr_lbm (p := (b1 1)) (n := 1) 0 0 Tryd.underlying104 rfl Tryd.sizeOf22 (by decide) q0 rfl)) <| oe [503, 500, 3] [] (GOk.on_eq hb5 rfl rfl rfl (op_load_lb1 [] [one (strVP a_1.f_name)] 1 Tryd.isAgg22 q0 rfl rfl)) <| oe [504, 502, 500] [] (GOk.on_eq hb5 rfl rfl rfl (op_bin bin_eql q0 q1)) <| oe [505, 500] [] (GOk.on_eq hb5 rfl rfl rfl (op_move q0)) <| oe [500, 0] [] (GOk.on_eq hb6 rfl rfl rfl (op_fieldAddr_lbm (p := (b1 0)) (n := 1) 0 1 Tryd.underlying104 rfl Tryd.sizeOf9 (by decide) q0 rfl)) <| oe [501, 500, 2] [] (GOk.on_eq hb6 rfl rfl rfl (op_load_lb1 [one (intVP .u32 a_0.f_origin)] [] 1 Tryd.isAgg9 q0 rfl rfl)) <| oe [502, 1] [] (GOk.on_eq hb6 rfl rfl rfl (op_fieldAddr_lbm (p := (b1 1)) (n := 1) 0 1 Tryd.underlying104 rfl Tryd.sizeOf9 (by decide) q0 rfl)) <| oe [503, 500, 3] [] (GOk.on_eq hb6 rfl rfl rfl (op_load_lb1 [one (intVP .u32 a_1.f_origin)] [] 1 Tryd.isAgg9 q0 rfl rfl)) <| oe [504, 502, 500] [] (GOk.on_eq hb6 rfl rfl rfl (op_call Tryd.call70 (name_Order_ok hr3) ⟨q0, q1, trivial⟩)) <| oe [505, 500] [] (GOk.on_eq hb6 rfl rfl rfl (op_bin bin_lss q0 qi)) <| oe [512, 506, 500] [] (GOk.on_eq hb5 rfl rfl rfl (op_pick_t hb6 q0 q1)) <| ov [513, 500] (op_pick_f hb5 q0 q1) <| ov [500] (op_assign q0) .nil) fun _ a w h => ?_
        exact ⟨decide (r3 < (0 : Int)), hF, h.sub [0] (by rfl)⟩
      · replace hF := ff_of hb6 hF
        refine reg mixed hn hG h [500] (ov [0] (op_fieldAddr_lbm (p := (b1 0)) (n := 1) 0 0 Tryd.underlying104 rfl Tryd.sizeOf22 (by decide) q0 rfl) <| ov [500, 2] (op_load_lb1 [] [one (strVP a_0.f_name)] 1 Tryd.isAgg22 q0 rfl rfl) <| ov [1] (op_fieldAddr_lbm (p := (b1 1)) (n := 1) 0 0 Tryd.underlying104 rfl Tryd.sizeOf22 (by decide) q0 rfl) <| ov [500, 3] (op_load_lb1 [] [one (strVP a_1.f_name)] 1 Tryd.isAgg22 q0 rfl rfl) <| ov [502, 500] (op_bin bin_lss q0 q1) <| ov [500] (op_move q0) <| oe [500, 0] [] (GOk.on_eq hb5 rfl rfl rfl (op_fieldAddr_lbm (p := (b1 0)) (n := 1) 0 0 Tryd.underlying104 rfl Tryd.sizeOf22 (by decide) q0 rfl)) <| oe [501, 500, 2] [] (GOk.on_eq hb5 rfl rfl rfl (op_load_lb1 [] [one (strVP a_0.f_name)] 1 Tryd.isAgg22 q0 rfl rfl)) <| oe [502, 1] [] (GOk.on_eq hb5 rfl rfl rfl (op_fieldAddr_lbm (p := (b1 1)) (n := 1) 0 0 Tryd.underlying104 rfl Tryd.sizeOf22 (by decide) q0 rfl)) <| oe [503, 500, 3] [] (GOk.on_eq hb5 rfl rfl rfl (op_load_lb1 [] [one (strVP a_1.f_name)] 1 Tryd.isAgg22 q0 rfl rfl)) <| oe [504, 502, 500] [] (GOk.on_eq hb5 rfl rfl rfl (op_bin bin_eql q0 q1)) <| oe [505, 500] [] (GOk.on_eq hb5 rfl rfl rfl (op_move q0)) <| oe [500] [] (GOk.off_v (want := true) hb6 rfl rfl rfl rfl) <| oe [501] [] (GOk.off_v (want := true) hb6 rfl rfl rfl rfl) <| oe [502] [] (GOk.off_v (want := true) hb6 rfl rfl rfl rfl) <| oe [503] [] (GOk.off_v (want := true) hb6 rfl rfl rfl rfl) <| oe [504] [] (GOk.off_v (want := true) hb6 rfl rfl rfl rfl) <| oe [505] [] (GOk.off_v (want := true) hb6 rfl rfl rfl rfl) <| oe [512, 506] [] (GOk.on_eq hb5 rfl rfl rfl (op_pick_f hb6 q0 qb)) <| ov [513, 500] (op_pick_f hb5 q0 q1) <| ov [500] (op_assign q0) .nil) fun _ a w h => ?_
        exact ⟨false, hF, h.sub [0] (by rfl)⟩
  · clear h hF
    rintro a w ⟨x4, hF, h⟩
    unfold purse_before.j1 at hF
    show Code.wp Tryd.prog _ _ a w
    refine wp_ret ?_
    obtain rfl := Option.some.inj hF
    exact ⟨.inl rfl, ret1 h Tryd.results50 (r_tmp 0 rfl) [] [] rfl rfl rfl⟩

def purse_Enlist_1 (a_0 : S_api_Token) (c_1 : S_purse_key) : Option Bool := ((purse_of a_0).bind fun r2 => ((purse_before c_1 r2).bind fun r3 => some r3))
theorem purse_Enlist_1_ok {a_0 : S_api_Token} {c_1 : S_purse_key} {r : Bool} (hF : purse_Enlist_1 a_0 c_1 = some r) : CallOk Tryd.prog KG 49 [(aggVP [one (intVP .u32 a_0.f_Origin), one (strVP a_0.f_Name), one (intVP .u64 a_0.f_Cap), one (intVP .u64 a_0.f_Locked), one (intVP .u64 a_0.f_Unlocked), one (intVP .u64 a_0.f_Minted), one (intVP .u64 a_0.f_Burned)]), (ppVP [one (intVP .u32 c_1.f_origin), one (strVP c_1.f_name)])] [] (fun _ => []) (boolVP r) := by
  refine CallOk.intro 8 Tryd.func49 rfl Tryd.ntmps49 (Nat.le_of_ble_eq_true rfl) ?_
  intro c a w hG hn h
  unfold purse_Enlist_1 at hF
  change SatL c [.slot 0 (aggVP [one (intVP .u32 a_0.f_Origin), one (strVP a_0.f_Name), one (intVP .u64 a_0.f_Cap), one (intVP .u64 a_0.f_Locked), one (intVP .u64 a_0.f_Unlocked), one (intVP .u64 a_0.f_Minted), one (intVP .u64 a_0.f_Burned)]), .slot 1 (ppVP [one (intVP .u32 c_1.f_origin), one (strVP c_1.f_name)])] a w at h
  refine regS mixed hn hG h [1, 502, 501] (ob [0] (op_box q0 (cells_agg _)) <| ov [] (op_assign qb) .nil) fun b1 a w h => ?_
  obtain ⟨r2, hr2, hF⟩ := bind_some hF
  obtain ⟨r3, hr3, hF⟩ := bind_some hF
  refine regS mixed hn hG h [500] (ov [0] (op_load_pp [one (intVP .u32 c_1.f_origin), one (strVP c_1.f_name)] [] Tryd.isAgg104 Tryd.sizeOf104 q0 rfl) <| ov [1, 2] (op_load_w 1 Tryd.isAgg82 Tryd.sizeOf82 q0) <| oc [500] [] Tryd.call51 (purse_of_ok hr2) ⟨q0, trivial⟩ <| oc [502, 500] [] Tryd.call50 (purse_before_ok hr3) ⟨q0, q1, trivial⟩ <| ov [500] (op_assign q0) .nil) fun _ a w h => ?_
  refine wp_ret ?_
  obtain rfl := Option.some.inj hF
  exact ⟨.inl rfl, ret1 h Tryd.results49 (r_tmp 0 rfl) [] [] rfl rfl rfl⟩

def slices_Insert_api_Token (a_0 : List (S_api_Token)) (a_1 : Int) (a_2 : List (S_api_Token)) : Option (List (S_api_Token)) := (if (0 : Int) ≤ a_1 ∧ a_1 ≤ (a_0.length : Int) ∧ (a_0.length : Int) ≤ a_0.length then (if (decide ((a_2.length : Int) = (0 : Int))) = true then some a_0 else (if (decide (a_1 = (a_0.length : Int))) = true then (if a_0.length + a_2.length ≤ mxl ∧ (a_0.length + a_2.length) * 64 ≤ 140737488355328 then some (a_0 ++ a_2) else none) else none)) else none)
theorem slices_Insert_api_Token_ok {p_0 : Value} {a_0 : List (S_api_Token)} {a_1 : Int} {a_2 : List (S_api_Token)} {r : (List (S_api_Token))} (hF : slices_Insert_api_Token a_0 a_1 a_2 = some r) : CallOk Tryd.prog KG 52 [(eqVP p_0), (intVP .i64 a_1), (slVP S_api_Token.ck a_2)] [(acc p_0 82 7 S_api_Token.ck a_0)] (fun v => [acc v 82 7 S_api_Token.ck r]) anyVP := by
  refine CallOk.intro 95 Tryd.func52 rfl Tryd.ntmps52 (Nat.le_of_ble_eq_true rfl) ?_
  intro c a w hG hn h
  unfold slices_Insert_api_Token at hF
  change SatL c [.slot 0 (eqVP p_0), .slot 1 (intVP .i64 a_1), .slot 2 (slVP S_api_Token.ck a_2), .res (acc p_0 82 7 S_api_Token.ck a_0)] a w at h
  refine regS mixed hn hG h [0, 1, 2, 3] (ov [] (op_assign (opc (ec _))) .nil) fun _ a w h => ?_
  obtain ⟨hv1, hF⟩ := ite_some hF
  refine regS mixed hn hG h [0, 1, 2, 3] (ov [0] (op_move q0) <| ov [1] (op_move q0) <| ov [501, 3, 500] (op_slice_sl (a := a_1) (b := (a_0.length : Int)) Tryd.underlying28 Tryd.sizeOf82 S_api_Token.lens (opacc 0 1 rfl rfl) ⟨_, q2⟩ rfl hv1) .nil) fun _ a w h => ?_
  refine regS mixed hn hG h [0, 1, 2, 500, 3] (ov [2] (op_move q0) <| ov [500] (op_len_sl Tryd.underlying28 q0) <| ov [500] (op_assign q0) .nil) fun _ a w h => ?_
  refine wp_seq ?_
  refine regS mixed hn hG h [0, 1, 2, 3, 500, 4] (ov [3] (op_move q0) <| ov [500] (op_bin bin_eql q0 qi) .nil) fun _ a w h => ?_
  refine cnd h hF 4 [0, 5] [0, 1, 2, 3, 5] (fun hb2 hF h => ?_) (fun hb2 hF h => ?_)
  · refine regS mixed hn hG h [500, 1] (ov [0] (op_move q0) <| ov [500] (op_assign q0) .nil) fun _ a w h => ?_
    refine wp_ret ?_
    obtain rfl := Option.some.inj hF
    exact ⟨.inl rfl, ret1v (p := p_0) h Tryd.results52 (r_tmp 0 rfl) [1] _ rfl rfl rfl⟩
  · refine wp_skip ?_
    show Code.wp Tryd.prog _ _ a w
    refine regS mixed hn hG h [0, 1, 2, 3, 500, 4] (ov [0] (op_move q0) <| ov [500, 4] (op_len_sl Tryd.underlying28 (opacc 0 1 rfl rfl)) <| ov [500] (op_assign q0) .nil) fun _ a w h => ?_
    refine wp_seq ?_
    refine regS mixed hn hG h [0, 1, 2, 3, 4, 500, 5] (ov [1] (op_move q0) <| ov [4] (op_move q0) <| ov [501, 500] (op_bin bin_eql q0 q1) .nil) fun _ a w h => ?_
    refine cnd h hF 5 [0, 2, 6] [0, 1, 2, 3, 4, 6] (fun hb3 hF h => ?_) (fun hb3 hF h => ?_)
    · obtain ⟨hv4, hF⟩ := ite_some hF
      refine regS mixed hn hG h [500, 501] (ov [0] (op_move q0) <| ov [1] (op_move q0) <| og [501, 500] [2] [.slot 25 2 100000 (fun v1_ _ => (eqVP v1_)), .res 2 100000 (fun v1_ _ => (acc (v1_) 82 7 S_api_Token.ck (a_0 ++ a_2)))] (GOk.plain (op_append (i := Tryd.t82) Tryd.underlying28 Tryd.type82 rfl S_api_Token.lens (by decide) rfl q0 q1 hv4) rfl) <| og [501] [] [.slot 6 2 100000 (fun v1_ _ => (eqVP v1_))] (fun {β} => (GOk.plain (op_assign (V := (eqVP (β 2))) q0) rfl)) .nil) fun b5 a w h => ?_
      refine wp_ret ?_
      obtain rfl := Option.some.inj hF
      exact ⟨.inl rfl, ret1v (p := (b5 2)) h Tryd.results52 (r_tmp 0 rfl) [1] _ rfl rfl rfl⟩
    · cases hF

def slices_Clone_api_Token (a_0 : List (S_api_Token)) : Option (List (S_api_Token)) := (if a_0.length * 64 ≤ 140737488355328 then some a_0 else none)
theorem slices_Clone_api_Token_ok {a_0 r : List (S_api_Token)} (hF : slices_Clone_api_Token a_0 = some r) : CallOk Tryd.prog KG 53 [(slVP S_api_Token.ck a_0)] [] (fun _ => []) (slVP S_api_Token.ck r) := by
  unfold slices_Clone_api_Token at hF
  obtain ⟨hv1, hF⟩ := ite_some hF
  obtain rfl := Option.some.inj hF
  refine CallOk.intro 8 Tryd.func53 rfl Tryd.ntmps53 (Nat.le_of_ble_eq_true rfl) ?_
  intro c a w hG hn h
  change SatL c [.slot 0 (slVP S_api_Token.ck a_0)] a w at h
  refine wp_seq ?_
  refine region_do (n := 8) [.slot 2 100000 100000 (fun _ _ => (eqVP (.slice none 0 0)))] [0] [⟨[], [], [1], [], some 2⟩] [0] mixed hn hG h (by kernel_rfl) ?_ ?_
  · exact ⟨⟨rfl, fun β => (GOk.plain (op_assign (opc (ec _))) rfl)⟩, trivial⟩
  clear h
  intro β a w h
  change SatL c [.slot 0 (slVP S_api_Token.ck a_0)] a w at h
  clear β
  show Code.wp Tryd.prog _ _ a w
  refine wp_seq ?_
  refine wp_seq ?_
  refine region_do (n := 8) [.slot 3 100000 100000 (fun _ _ => (slVP S_api_Token.ck a_0)), .slot 4 100000 100000 (fun _ _ => (nilqVP a_0))] [0, 1] [⟨[0], [], [1], [], some 3⟩, ⟨[1], [], [2], [0], some 4⟩] [0, 2] mixed hn hG h (by kernel_rfl) ?_ ?_
  · exact ⟨⟨rfl, fun β => (GOk.plain (op_move (opt 0 rfl)) rfl)⟩, ⟨rfl, fun β => (GOk.plain (op_bin (bin_slnil Tryd.underlying28) (opt 0 rfl) (opc (ec _))) rfl)⟩, trivial⟩
  clear h
  intro β a w h
  change SatL c [.slot 0 (slVP S_api_Token.ck a_0), .slot 4 (nilqVP a_0)] a w at h
  clear β
  show Code.wp Tryd.prog _ _ a w
  obtain ⟨b0, hb0, h⟩ := h.nilq 1 rfl
  change SatL c [.slot 0 (slVP S_api_Token.ck a_0), .slot 4 (boolVP b0)] a w at h
  refine cond_L h 1 rfl (fun hb => ?_) (fun hb => ?_)
  · obtain rfl := hb0 hb
    replace h := h.sub [] (by rfl)
    change SatL c [] a w at h
    refine wp_seq ?_
    refine region_do (n := 8) [.slot 2 100000 100000 (fun _ _ => (eqVP (.slice none 0 0)))] [0] [⟨[], [], [0], [], some 2⟩] [0] mixed hn hG h (by kernel_rfl) ?_ ?_
    · exact ⟨⟨rfl, fun β => (GOk.plain (op_assign (opc (ec _))) rfl)⟩, trivial⟩
    clear h
    intro β a w h
    change SatL c [.slot 2 (eqVP (.slice none 0 0))] a w at h
    clear β
    show Code.wp Tryd.prog _ _ a w
    refine wp_ret ?_
    exact ⟨.inl rfl, ret1 h Tryd.results53 (r_nil 0 rfl) [] [] rfl rfl rfl⟩
  · replace h := h.sub [0] (by rfl)
    change SatL c [.slot 0 (slVP S_api_Token.ck a_0)] a w at h
    refine wp_skip ?_
    show Code.wp Tryd.prog _ _ a w
    refine wp_seq ?_
    refine region_do (n := 8) [.slot 5 100000 100000 (fun _ _ => empVP), .slot 6 100000 100000 (fun _ _ => (slVP S_api_Token.ck a_0)), .slot 7 100000 100000 (fun _ _ => (slVP S_api_Token.ck a_0)), .slot 2 100000 100000 (fun _ _ => (slVP S_api_Token.ck a_0))] [0, 1, 2, 3] [⟨[], [], [1], [], some 5⟩, ⟨[0], [], [2], [0], some 6⟩, ⟨[1, 2], [], [3], [0, 1], some 7⟩, ⟨[3], [], [4], [0, 1, 2], some 2⟩] [4] mixed hn hG h (by kernel_rfl) ?_ ?_
    · exact ⟨⟨rfl, fun β => (GOk.plain (op_lit0 Tryd.underlying28 Tryd.sizeOf82 Tryd.zeroValue82) rfl)⟩, ⟨rfl, fun β => (GOk.plain (op_move (opt 0 rfl)) rfl)⟩, ⟨rfl, fun β => (GOk.plain (op_append_emp (i := Tryd.t82) Tryd.underlying28 Tryd.type82 rfl S_api_Token.lens (by decide) rfl (opt 0 rfl) (opt 1 rfl) hv1) rfl)⟩, ⟨rfl, fun β => (GOk.plain (op_assign (opt 0 rfl)) rfl)⟩, trivial⟩
    clear h
    intro β a w h
    change SatL c [.slot 2 (slVP S_api_Token.ck a_0)] a w at h
    clear β
    show Code.wp Tryd.prog _ _ a w
    refine wp_ret ?_
    exact ⟨.inl rfl, ret1 h Tryd.results53 (r_tmp 0 rfl) [] [] rfl rfl rfl⟩
theorem slices_Clone_api_Token_own {a_0 r : List (S_api_Token)} (hF : slices_Clone_api_Token a_0 = some r) : CallOk Tryd.prog KG 53 [(slVP S_api_Token.ck a_0)] [] (fun v => [own v 82 7 S_api_Token.ck r]) anyVP := by
  unfold slices_Clone_api_Token at hF
  obtain ⟨hv1, hF⟩ := ite_some hF
  obtain rfl := Option.some.inj hF
  refine CallOk.intro 8 Tryd.func53 rfl Tryd.ntmps53 (Nat.le_of_ble_eq_true rfl) ?_
  intro c a w hG hn h
  change SatL c [.slot 0 (slVP S_api_Token.ck a_0)] a w at h
  have hm : a_0.length ≤ mxl := h.slotp 0 rfl (fun _ _ q => q.1)
  refine wp_seq ?_
  refine region_do (n := 8) [.slot 2 100000 100000 (fun _ _ => (eqVP (.slice none 0 0)))] [0] [⟨[], [], [1], [], some 2⟩] [0] mixed hn hG h (by kernel_rfl) ?_ ?_
  · exact ⟨⟨rfl, fun β => (GOk.plain (op_assign (opc (ec _))) rfl)⟩, trivial⟩
  clear h
  intro β a w h
  change SatL c [.slot 0 (slVP S_api_Token.ck a_0)] a w at h
  clear β
  show Code.wp Tryd.prog _ _ a w
  refine wp_seq ?_
  refine wp_seq ?_
  refine region_do (n := 8) [.slot 3 100000 100000 (fun _ _ => (slVP S_api_Token.ck a_0)), .slot 4 100000 100000 (fun _ _ => (nilqVP a_0))] [0, 1] [⟨[0], [], [1], [], some 3⟩, ⟨[1], [], [2], [0], some 4⟩] [0, 2] mixed hn hG h (by kernel_rfl) ?_ ?_
  · exact ⟨⟨rfl, fun β => (GOk.plain (op_move (opt 0 rfl)) rfl)⟩, ⟨rfl, fun β => (GOk.plain (op_bin (bin_slnil Tryd.underlying28) (opt 0 rfl) (opc (ec _))) rfl)⟩, trivial⟩
  clear h
  intro β a w h
  change SatL c [.slot 0 (slVP S_api_Token.ck a_0), .slot 4 (nilqVP a_0)] a w at h
  clear β
  show Code.wp Tryd.prog _ _ a w
  obtain ⟨b0, hb0, h⟩ := h.nilq 1 rfl
  change SatL c [.slot 0 (slVP S_api_Token.ck a_0), .slot 4 (boolVP b0)] a w at h
  refine cond_L h 1 rfl (fun hb => ?_) (fun hb => ?_)
  · obtain rfl := hb0 hb
    replace h := h.sub [] (by rfl)
    change SatL c [] a w at h
    refine wp_seq ?_
    refine region_do (n := 8) [.slot 2 100000 100000 (fun _ _ => (eqVP (.slice none 0 0)))] [0] [⟨[], [], [0], [], some 2⟩] [0] mixed hn hG h (by kernel_rfl) ?_ ?_
    · exact ⟨⟨rfl, fun β => (GOk.plain (op_assign (opc (ec _))) rfl)⟩, trivial⟩
    clear h
    intro β a w h
    change SatL c [.slot 2 (eqVP (.slice none 0 0))] a w at h
    clear β
    replace h := h.nilown 82 7 S_api_Token.ck
    show Code.wp Tryd.prog _ _ a w
    refine wp_ret ?_
    exact ⟨.inl rfl, ret1v (p := .slice none 0 0) h Tryd.results53 (r_tmp 0 rfl) [1] _ rfl rfl rfl⟩
  · replace h := h.sub [0] (by rfl)
    change SatL c [.slot 0 (slVP S_api_Token.ck a_0)] a w at h
    refine wp_skip ?_
    show Code.wp Tryd.prog _ _ a w
    refine wp_seq ?_
    refine region_do (n := 8) [.slot 5 0 100000 (fun v _ => (eqVP v)), .res 0 100000 (fun v _ => (own v 82 7 S_api_Token.ck ([] : List (S_api_Token)))), .slot 6 100000 100000 (fun _ _ => (slVP S_api_Token.ck a_0)), .slot 7 2 100000 (fun v _ => (eqVP v)), .res 2 100000 (fun v _ => (own v 82 7 S_api_Token.ck (([] : List (S_api_Token)) ++ a_0))), .slot 2 2 100000 (fun v _ => (eqVP v))] [0, 0, 1, 2, 2, 3] [⟨[], [], [1, 2], [], some 5⟩, ⟨[0], [], [3], [0], some 6⟩, ⟨[1, 3], [2], [4, 5], [0, 1], some 7⟩, ⟨[4], [], [6], [0, 1, 2], some 2⟩] [6, 5] mixed hn hG h (by kernel_rfl) ?_ ?_
    · exact ⟨⟨rfl, fun β => (GOk.plain (op_lit0O Tryd.underlying28 Tryd.sizeOf82 Tryd.zeroValue82) rfl)⟩, ⟨rfl, fun β => (GOk.plain (op_move (opt 0 rfl)) rfl)⟩, ⟨rfl, fun β => (GOk.plain (op_ownAppend (i := Tryd.t82) Tryd.underlying28 Tryd.type82 rfl S_api_Token.lens (by decide) rfl (opt 0 rfl) (opt 1 rfl) ⟨by simpa using hm, by rw [List.length_nil, Nat.zero_add]; exact hv1⟩) rfl)⟩, ⟨rfl, fun β => (GOk.plain (op_assign (V := eqVP (β 2)) (opt 0 rfl)) rfl)⟩, trivial⟩
    clear h
    intro β a w h
    change SatL c [.slot 2 (eqVP (β 2)), .res (own (β 2) 82 7 S_api_Token.ck a_0)] a w at h
    generalize β 2 = p at h
    clear β
    show Code.wp Tryd.prog _ _ a w
    refine wp_ret ?_
    exact ⟨.inl rfl, ret1v (p := p) h Tryd.results53 (r_tmp 0 rfl) [1] _ rfl rfl rfl⟩

def purse_Enlist.j1 (a_0 : S_api_Purse) (a_1 : Int) (a_2 : List UInt8) (a_3 : Int) (x10 : Int) : Option (S_api_Purse × Int) := ((slices_Clone_api_Token a_0.f_Tokens).bind fun r11 => ((slices_Insert_api_Token r11 x10 [(S_api_Token.mk a_1 a_2 a_3 (0 : Int) (0 : Int) (0 : Int) (0 : Int))]).bind fun r12 => some ((S_api_Purse.mk r12 a_0.f_Holdings), 0)))
def purse_Enlist (a_0 : S_api_Purse) (a_1 : Int) (a_2 : List UInt8) (a_3 : Int) : Option (S_api_Purse × Int) := ((name_Right a_2).bind fun r4 => (if (!r4) = true then some (a_0, 7) else ((purse_token a_0 (S_purse_key.mk a_1 a_2)).bind fun r6 => (if (decide ((0 : Int) ≤ r6)) = true then some (a_0, 13) else (if (decide ((32 : Int) ≤ (a_0.f_Tokens.length : Int))) = true then some (a_0, 6) else ((slices_IndexFunc_api_Token a_0.f_Tokens (fun x : S_api_Token => purse_Enlist_1 x (S_purse_key.mk a_1 a_2))).bind fun r9 => (if (decide (r9 < (0 : Int))) = true then purse_Enlist.j1 a_0 a_1 a_2 a_3 (a_0.f_Tokens.length : Int) else purse_Enlist.j1 a_0 a_1 a_2 a_3 r9)))))))
theorem purse_Enlist_ok {a_0 : S_api_Purse} {a_1 : Int} {a_2 : List UInt8} {a_3 : Int} {r : S_api_Purse × Int} (hF : purse_Enlist a_0 a_1 a_2 a_3 = some r) : CallOk Tryd.prog KG 24 [(aggVP [one (slVP S_api_Token.ck a_0.f_Tokens), one (slVP S_api_Holding.ck a_0.f_Holdings)]), (intVP .u32 a_1), (strVP a_2), (intVP .u64 a_3)] [] (fun _ => []) (tupVP [(aggVP [one (slVP S_api_Token.ck r.1.f_Tokens), one (slVP S_api_Holding.ck r.1.f_Holdings)]), (intVP .i64 r.2)]) := by
  refine CallOk.intro 53 Tryd.func24 rfl Tryd.ntmps24 (Nat.le_of_ble_eq_true rfl) ?_
  intro c a w hG hn h
  unfold purse_Enlist at hF
  change SatL c [.slot 0 (aggVP [one (slVP S_api_Token.ck a_0.f_Tokens), one (slVP S_api_Holding.ck a_0.f_Holdings)]), .slot 1 (intVP .u32 a_1), .slot 2 (strVP a_2), .slot 3 (intVP .u64 a_3)] a w at h
  refine regS mixed hn hG h [1, 2, 3, 504, 502, 503, 501] (ob [0] (op_box q0 (cells_agg _)) <| ob [] (op_alloc Tryd.zeroValue31 z31) <| ov [] (op_assign qi) .nil) fun b1 a w h => ?_
  refine regS mixed hn hG h [0, 1, 2, 3, 4, 502, 5, 6, 500] (ov [0] (op_move q0) <| ov [1] (op_move q0) <| ov [501, 500] (op_build [(0, .tmp 12), (1, .tmp 13)] rfl bu104 z104 ⟨[], [one (intVP .u32 (0 : Int))], [one (strVP [])], [one (intVP .u32 a_1)], _, rfl, rfl, rfl, q0, (cells_one (one_int _ _)), ⟨[one (intVP .u32 a_1)], [one (strVP [])], [], [one (strVP a_2)], _, rfl, rfl, rfl, q1, (cells_one (one_str _)), rfl⟩⟩) <| ob [] (op_alloc Tryd.zeroValue104 z104) <| og [501, 502] [500] [.res 3 100000 (fun v1_ _ => (lb (v1_) 104 [one (intVP .u32 a_1), one (strVP a_2)]))] (GOk.plain (op_store_w Tryd.sizeOf104 q0 q1 (cells_agg _)) rfl) .nil) fun b3 a w h => ?_
  refine wp_seq ?_
  refine wp_block ?_
  obtain ⟨r4, hr4, hF⟩ := bind_some hF
  refine regS mixed hn hG h [0, 1, 2, 3, 4, 5, 500, 6, 7, 8] (ov [1] (op_move q0) <| oc [500] [] Tryd.call46 (name_Right_ok hr4) ⟨q0, trivial⟩ <| ov [500] (op_un (un_not _) q0) <| ov [500] (op_assign q0) .nil) fun _ a w h => ?_
  refine cnd h hF 6 [3, 4, 7, 8] [0, 1, 2, 3, 4, 5, 7, 8, 9] (fun hb5 hF h => ?_) (fun hb5 hF h => ?_)
  · refine regS mixed hn hG h [1, 500, 501] (ov [0, 2] (op_load_w 1 Tryd.isAgg31 Tryd.sizeOf31 q0) <| ou [1, 500] 3 (op_store_w Tryd.sizeOf31 q0 q1 (cells_agg _)) <| ov [] (op_assign qi) .nil) fun _ a w h => ?_
    refine wp_ret ?_
    obtain rfl := Option.some.inj hF
    exact ⟨.inl rfl, retn h (rs := [.cell 8 31, .tmp 9]) (Vs := [(aggVP [one (slVP S_api_Token.ck a_0.f_Tokens), one (slVP S_api_Holding.ck a_0.f_Holdings)]), (intVP .i64 7)]) Tryd.results24 (by decide) ⟨(r_cell 0 2 rfl rfl Tryd.isAgg31 Tryd.sizeOf31 rfl), (r_tmp 1 rfl), trivial⟩ [] [] rfl rfl rfl⟩
  · obtain ⟨r6, hr6, hF⟩ := bind_some hF
    refine regS mixed hn hG h [0, 1, 2, 3, 4, 5, 500, 6, 7, 8] (ov [3, 6] (op_load_w 1 Tryd.isAgg31 Tryd.sizeOf31 q0) <| ov [5, 8] (op_load_w 1 Tryd.isAgg104 Tryd.sizeOf104 q0) <| oc [501, 500] [] Tryd.call47 (purse_token_ok hr6) ⟨q0, q1, trivial⟩ <| ov [500] (op_bin bin_geq q0 qi) <| ov [500] (op_assign q0) .nil) fun _ a w h => ?_
    refine cnd h hF 6 [3, 4, 7, 8] [0, 1, 2, 3, 4, 5, 7, 8, 9] (fun hb7 hF h => ?_) (fun hb7 hF h => ?_)
    · refine regS mixed hn hG h [1, 500, 501] (ov [0, 2] (op_load_w 1 Tryd.isAgg31 Tryd.sizeOf31 q0) <| ou [1, 500] 3 (op_store_w Tryd.sizeOf31 q0 q1 (cells_agg _)) <| ov [] (op_assign qi) .nil) fun _ a w h => ?_
      refine wp_ret ?_
      obtain rfl := Option.some.inj hF
      exact ⟨.inl rfl, retn h (rs := [.cell 8 31, .tmp 9]) (Vs := [(aggVP [one (slVP S_api_Token.ck a_0.f_Tokens), one (slVP S_api_Holding.ck a_0.f_Holdings)]), (intVP .i64 13)]) Tryd.results24 (by decide) ⟨(r_cell 0 2 rfl rfl Tryd.isAgg31 Tryd.sizeOf31 rfl), (r_tmp 1 rfl), trivial⟩ [] [] rfl rfl rfl⟩
    · refine regS mixed hn hG h [0, 1, 2, 3, 4, 5, 500, 6, 7, 8] (ov [3] (op_fieldAddr_lbm (p := (b1 0)) (n := 1) 0 0 Tryd.underlying31 rfl Tryd.sizeOf28 (by decide) q0 rfl) <| ov [500, 6] (op_load_lb1 [] [one (slVP S_api_Holding.ck a_0.f_Holdings)] 1 Tryd.isAgg28 q0 rfl rfl) <| ov [500] (op_len_sl Tryd.underlying28 q0) <| ov [500] (op_bin bin_geq q0 qi) <| ov [500] (op_assign q0) .nil) fun _ a w h => ?_
      refine cnd h hF 6 [3, 4, 7, 8] [0, 1, 2, 3, 4, 5, 7, 8, 9] (fun hb8 hF h => ?_) (fun hb8 hF h => ?_)
      · refine regS mixed hn hG h [1, 500, 501] (ov [0, 2] (op_load_w 1 Tryd.isAgg31 Tryd.sizeOf31 q0) <| ou [1, 500] 3 (op_store_w Tryd.sizeOf31 q0 q1 (cells_agg _)) <| ov [] (op_assign qi) .nil) fun _ a w h => ?_
        refine wp_ret ?_
        obtain rfl := Option.some.inj hF
        exact ⟨.inl rfl, retn h (rs := [.cell 8 31, .tmp 9]) (Vs := [(aggVP [one (slVP S_api_Token.ck a_0.f_Tokens), one (slVP S_api_Holding.ck a_0.f_Holdings)]), (intVP .i64 6)]) Tryd.results24 (by decide) ⟨(r_cell 0 2 rfl rfl Tryd.isAgg31 Tryd.sizeOf31 rfl), (r_tmp 1 rfl), trivial⟩ [] [] rfl rfl rfl⟩
      · refine wp_skip ?_
        show Code.wp Tryd.prog _ _ a w
        replace h := h.publish 8 rfl
        replace h := h.factslot 5 8 rfl rfl
        replace h := h.sub [0, 1, 2, 3, 4, 5, 6, 7] (by rfl)
        change SatL c [.slot 1 (intVP .u32 a_1), .slot 2 (strVP a_2), .slot 3 (intVP .u64 a_3), .slot 4 (lpVP (b1 0) 0), .slot 8 (lpVP (b1 1) 0), .slot 10 (ppVP [one (intVP .u32 a_1), one (strVP a_2)]), .res (lb (b1 0) 31 [one (slVP S_api_Token.ck a_0.f_Tokens), one (slVP S_api_Holding.ck a_0.f_Holdings)]), .res (lb (b1 1) 31 [one (slVP S_api_Token.ck ((S_api_Purse.mk [] []).f_Tokens)), one (slVP S_api_Holding.ck ((S_api_Purse.mk [] []).f_Holdings))])] a w at h
        obtain ⟨r9, hr9, hF⟩ := bind_some hF
        refine regS mixed hn hG h [0, 1, 2, 3, 4, 500, 6, 7] (ov [3] (op_fieldAddr_lbm (p := (b1 0)) (n := 1) 0 0 Tryd.underlying31 rfl Tryd.sizeOf28 (by decide) q0 rfl) <| ov [500, 6] (op_load_lb1 [] [one (slVP S_api_Holding.ck a_0.f_Holdings)] 1 Tryd.isAgg28 q0 rfl rfl) <| ov [5] (op_makeFunc_pp (A := (fun x : S_api_Token => [(aggVP [one (intVP .u32 x.f_Origin), one (strVP x.f_Name), one (intVP .u64 x.f_Cap), one (intVP .u64 x.f_Locked), one (intVP .u64 x.f_Unlocked), one (intVP .u64 x.f_Minted), one (intVP .u64 x.f_Burned)])])) (B := (fun r : Bool => (boolVP r))) (g := (fun x : S_api_Token => purse_Enlist_1 x (S_purse_key.mk a_1 a_2))) (Cs := [(ppVP [one (intVP .u32 a_1), one (strVP a_2)])]) Tryd.call49 (fun x r h => purse_Enlist_1_ok h) ⟨q0, trivial⟩) <| oc [501, 500] [] Tryd.call48 (slices_IndexFunc_api_Token_ok hr9) ⟨q0, q1, trivial⟩ <| ov [500] (op_assign q0) .nil) fun _ a w h => ?_
        refine wp_seq ?_
        refine regS mixed hn hG h [0, 1, 2, 3, 4, 5, 500, 6, 7] (ov [5] (op_move q0) <| ov [500] (op_bin bin_lss q0 qi) .nil) fun _ a w h => ?_
        refine wp_cut (fun a w => ∃ (x10 : Int), purse_Enlist.j1 a_0 a_1 a_2 a_3 x10 = some r ∧ SatL c [.slot 1 (intVP .u32 a_1), .slot 2 (strVP a_2), .slot 3 (intVP .u64 a_3), .slot 4 (lpVP (b1 0) 0), .slot 8 (lpVP (b1 1) 0), .slot 11 (intVP .i64 x10), .res (lb (b1 0) 31 [one (slVP S_api_Token.ck a_0.f_Tokens), one (slVP S_api_Holding.ck a_0.f_Holdings)]), .res (lb (b1 1) 31 [one (slVP S_api_Token.ck ((S_api_Purse.mk [] []).f_Tokens)), one (slVP S_api_Holding.ck ((S_api_Purse.mk [] []).f_Holdings))])] a w) ?_ ?_
        · refine cnd h hF 6 [0, 1, 2, 3, 4, 7, 8] [0, 1, 2, 3, 4, 5, 7, 8] (fun hb13 hF h => ?_) (fun hb13 hF h => ?_)
          · refine reg mixed hn hG h [0, 1, 2, 3, 4, 500, 5, 6] (ov [3] (op_fieldAddr_lbm (p := (b1 0)) (n := 1) 0 0 Tryd.underlying31 rfl Tryd.sizeOf28 (by decide) q0 rfl) <| ov [500, 5] (op_load_lb1 [] [one (slVP S_api_Holding.ck a_0.f_Holdings)] 1 Tryd.isAgg28 q0 rfl rfl) <| ov [500] (op_len_sl Tryd.underlying28 q0) <| ov [500] (op_assign q0) .nil) fun _ a w h => ?_
            exact ⟨(a_0.f_Tokens.length : Int), hF, h.sub [0, 1, 2, 3, 4, 5, 6, 7] (by rfl)⟩
          · refine wp_skip ?_
            exact ⟨r9, hF, h.sub [0, 1, 2, 3, 4, 5, 6, 7] (by rfl)⟩
        · clear h hF
          rintro a w ⟨x10, hF, h⟩
          unfold purse_Enlist.j1 at hF
          show Code.wp Tryd.prog _ _ a w
          obtain ⟨r11, hr11, hF⟩ := bind_some hF
          obtain ⟨r12, hr12, hF⟩ := bind_some hF
          refine regS mixed hn hG h [3, 4, 500, 7] (ov [3] (op_fieldAddr_lbm (p := (b1 0)) (n := 1) 0 0 Tryd.underlying31 rfl Tryd.sizeOf28 (by decide) q0 rfl) <| ov [500, 6] (op_load_lb1 [] [one (slVP S_api_Holding.ck a_0.f_Holdings)] 1 Tryd.isAgg28 q0 rfl rfl) <| og [500] [] [.slot 43 2 100000 (fun v1_ _ => (eqVP v1_)), .res 2 100000 (fun v1_ _ => (acc (v1_) 82 7 S_api_Token.ck r11))] (GOk.plain (OpOk.giveacc (op_callv Tryd.call53 (slices_Clone_api_Token_own hr11) ⟨q0, trivial⟩)) rfl) <| ov [5] (op_move q0) <| ov [0] (op_move q0) <| ov [1] (op_move q0) <| ov [2] (op_move q0) <| ov [502, 501, 500] (op_build [(0, .tmp 45), (1, .tmp 46), (2, .tmp 47)] rfl bu82 z82 ⟨[], [one (intVP .u32 (0 : Int))], [one (strVP []), one (intVP .u64 (0 : Int)), one (intVP .u64 (0 : Int)), one (intVP .u64 (0 : Int)), one (intVP .u64 (0 : Int)), one (intVP .u64 (0 : Int))], [one (intVP .u32 a_1)], _, rfl, rfl, rfl, q0, (cells_one (one_int _ _)), ⟨[one (intVP .u32 a_1)], [one (strVP [])], [one (intVP .u64 (0 : Int)), one (intVP .u64 (0 : Int)), one (intVP .u64 (0 : Int)), one (intVP .u64 (0 : Int)), one (intVP .u64 (0 : Int))], [one (strVP a_2)], _, rfl, rfl, rfl, q1, (cells_one (one_str _)), ⟨[one (intVP .u32 a_1), one (strVP a_2)], [one (intVP .u64 (0 : Int))], [one (intVP .u64 (0 : Int)), one (intVP .u64 (0 : Int)), one (intVP .u64 (0 : Int)), one (intVP .u64 (0 : Int))], [one (intVP .u64 a_3)], _, rfl, rfl, rfl, q2, (cells_one (one_int _ _)), rfl⟩⟩⟩) <| ov [500] (op_lit (xs := [.tmp 48]) (ys := [(S_api_Token.mk a_1 a_2 a_3 (0 : Int) (0 : Int) (0 : Int) (0 : Int))]) _ rfl Tryd.underlying28 Tryd.sizeOf82 Tryd.zeroValue82 rfl rfl (by decide) (by decide) ⟨⟨_, q0, (cells_agg _)⟩, trivial⟩ S_api_Token.lens) <| og [507, 505, 500] [506] [.slot 50 9 100000 (fun v1_ _ => (eqVP v1_)), .res 9 100000 (fun v1_ _ => (acc (v1_) 82 7 S_api_Token.ck r12))] (GOk.plain (op_callv Tryd.call52 (slices_Insert_api_Token_ok hr12) ⟨q0, q1, q2, trivial⟩) rfl) <| ov [3] (op_fieldAddr_lbm (p := (b1 0)) (n := 1) 0 0 Tryd.underlying31 rfl Tryd.sizeOf28 (by decide) q0 rfl) <| ou [500, 502, 501] 6 (op_store_lb [] [one (slVP S_api_Token.ck a_0.f_Tokens)] [one (slVP S_api_Holding.ck a_0.f_Holdings)] [one (slVP S_api_Token.ck r12)] Tryd.sizeOf28 q0 (opacc 1 2 rfl rfl) (cells_one (one_sl _ _)) rfl rfl rfl) .nil) fun _ a w h => ?_
          refine regS mixed hn hG h [1, 500, 501] (ov [0, 2] (op_load_w 1 Tryd.isAgg31 Tryd.sizeOf31 q0) <| ou [1, 500] 3 (op_store_w Tryd.sizeOf31 q0 q1 (cells_agg _)) <| ov [] (op_assign qi) .nil) fun _ a w h => ?_
          refine wp_ret ?_
          obtain rfl := Option.some.inj hF
          exact ⟨.inl rfl, retn h (rs := [.cell 8 31, .tmp 9]) (Vs := [(aggVP [one (slVP S_api_Token.ck r12), one (slVP S_api_Holding.ck a_0.f_Holdings)]), (intVP .i64 0)]) Tryd.results24 (by decide) ⟨(r_cell 0 2 rfl rfl Tryd.isAgg31 Tryd.sizeOf31 rfl), (r_tmp 1 rfl), trivial⟩ [] [] rfl rfl rfl⟩

def amount_Add (a_0 : Int) (a_1 : Int) : Option (Int × Int) := (if (decide (((a_0 + a_1 + 0) / 18446744073709551616) = (0 : Int))) = true then some ((a_0 + a_1 + 0) % 18446744073709551616, 0) else some (0, 10))
theorem amount_Add_ok {a_0 : Int} {a_1 : Int} {r : Int × Int} (hF : amount_Add a_0 a_1 = some r) : CallOk Tryd.prog KG 54 [(intVP .u64 a_0), (intVP .u64 a_1)] [] (fun _ => []) (tupVP [(intVP .u64 r.1), (intVP .i64 r.2)]) := by
  refine CallOk.intro 17 Tryd.func54 rfl Tryd.ntmps54 (Nat.le_of_ble_eq_true rfl) ?_
  intro c a w hG hn h
  unfold amount_Add at hF
  change SatL c [.slot 0 (intVP .u64 a_0), .slot 1 (intVP .u64 a_1)] a w at h
  refine regS mixed hn hG h [0, 1] (ov [] (op_assign qi) <| ov [] (op_assign qi) .nil) fun _ a w h => ?_
  refine wp_seq ?_
  refine regS mixed hn hG h [501, 500] (ov [0] (op_move q0) <| ov [1] (op_move q0) <| ov [501, 500] (op_add64 add64_run q0 q1 qi (by decide)) <| ov [500] (op_move q0) <| ov [500] (op_extract q0 rfl) <| ov [501] (op_extract q0 rfl) <| ov [501] (op_assign q0) <| ov [501] (op_assign q0) .nil) fun _ a w h => ?_
  refine regS mixed hn hG h [0, 500] (ov [1] (op_move q0) <| ov [500] (op_bin bin_eql q0 qi) .nil) fun _ a w h => ?_
  refine cnd h hF 1 [0] [] (fun hb1 hF h => ?_) (fun hb1 hF h => ?_)
  · refine regS mixed hn hG h [501, 500] (ov [0] (op_move q0) <| ov [500] (op_assign q0) <| ov [] (op_assign qi) .nil) fun _ a w h => ?_
    refine wp_ret ?_
    obtain rfl := Option.some.inj hF
    exact ⟨.inl rfl, retn h (rs := [.tmp 4, .tmp 5]) (Vs := [(intVP .u64 ((a_0 + a_1 + 0) % 18446744073709551616)), (intVP .i64 0)]) Tryd.results54 (by decide) ⟨(r_tmp 0 rfl), (r_tmp 1 rfl), trivial⟩ [] [] rfl rfl rfl⟩
  · refine wp_skip ?_
    show Code.wp Tryd.prog _ _ a w
    refine regS mixed hn hG h [501, 500] (ov [] (op_assign qi) <| ov [] (op_assign qi) .nil) fun _ a w h => ?_
    refine wp_ret ?_
    obtain rfl := Option.some.inj hF
    exact ⟨.inl rfl, retn h (rs := [.tmp 4, .tmp 5]) (Vs := [(intVP .u64 0), (intVP .i64 10)]) Tryd.results54 (by decide) ⟨(r_tmp 0 rfl), (r_tmp 1 rfl), trivial⟩ [] [] rfl rfl rfl⟩

def slices_IndexFunc_api_Holding.b1 (a_0 : List (S_api_Holding)) (a_1 : ((S_api_Holding)) → Option (Bool)) (x5 : Int) : Option (Flow Int Int) := (if (decide (x5 < (a_0.length : Int))) = true then (if (0 : Int) ≤ x5 ∧ x5 < a_0.length then ((a_1 (a_0.getD x5.toNat default)).bind fun r13 => (if r13 = true then some (.ret x5) else some (.cont (IntKind.wrap .i64 (x5 + 1))))) else none) else some (.brk x5))
def slices_IndexFunc_api_Holding (a_0 : List (S_api_Holding)) (a_1 : ((S_api_Holding)) → Option (Bool)) : Option Int := ((loopN (fun s : Int => slices_IndexFunc_api_Holding.b1 a_0 a_1 s) (((a_0.length : Int) - 0 : Int).toNat + 2) 0).bind fun cr => match cr with | .ret r => some r | .next y19 => some (-1 : Int))
theorem slices_IndexFunc_api_Holding_ok {a_0 : List (S_api_Holding)} {a_1 : ((S_api_Holding)) → Option (Bool)} {r : Int} (hF : slices_IndexFunc_api_Holding a_0 a_1 = some r) : CallOk Tryd.prog KG 76 [(slVP S_api_Holding.ck a_0), (fnVP Tryd.prog KG (fun x : S_api_Holding => [(aggVP [one (intVP .u32 x.f_Origin), one (strVP x.f_Token), one (strVP x.f_Owner), one (intVP .u64 x.f_Amount)])]) (fun r : Bool => (boolVP r)) a_1)] [] (fun _ => []) (intVP .i64 r) := by
  refine CallOk.intro 19 Tryd.func76 rfl Tryd.ntmps76 (Nat.le_of_ble_eq_true rfl) ?_
  intro c a w hG hn h
  unfold slices_IndexFunc_api_Holding at hF
  change SatL c [.slot 0 (slVP S_api_Holding.ck a_0), .slot 1 (fnVP Tryd.prog KG (fun x : S_api_Holding => [(aggVP [one (intVP .u32 x.f_Origin), one (strVP x.f_Token), one (strVP x.f_Owner), one (intVP .u64 x.f_Amount)])]) (fun r : Bool => (boolVP r)) a_1)] a w at h
  refine regS mixed hn hG h [0, 1] (ov [] (op_assign qi) .nil) fun _ a w h => ?_
  refine wp_seq ?_
  refine regS mixed hn hG h [0, 1, 501, 500] (ov [0] (op_move q0) <| ov [500] (op_len_sl Tryd.underlying29 q0) <| ov [] (op_move qi) .nil) fun _ a w h => ?_
  refine wp_block ?_
  obtain ⟨cr15, hl16, hF⟩ := bind_some hF
  refine wp_mono (wp_loopN (R := Int) (S := Int) (fun s a w => SatL c [.slot 0 (slVP S_api_Holding.ck a_0), .slot 1 (fnVP Tryd.prog KG (fun x : S_api_Holding => [(aggVP [one (intVP .u32 x.f_Origin), one (strVP x.f_Token), one (strVP x.f_Owner), one (intVP .u64 x.f_Amount)])]) (fun r : Bool => (boolVP r)) a_1), .slot 7 (intVP .i64 (a_0.length : Int)), .slot 8 (intVP .i64 s)] a w) (fun res e a w => match res with | .next s => e = .exit 0 ∧ SatL c [] a w | .ret r => e = .ret ∧ RetOk Tryd.prog Tryd.f76 c (intVP .i64 r) (fun _ => []) a w) ?_ _ 0 _ _ _ (h.sub [0, 1, 2, 3] (by rfl)) hl16) ?_
  · clear hl16 hF h
    intro x5 a w o h hF
    change slices_IndexFunc_api_Holding.b1 a_0 a_1 x5 = some o at hF
    unfold slices_IndexFunc_api_Holding.b1 at hF
    change SatL c [.slot 0 (slVP S_api_Holding.ck a_0), .slot 1 (fnVP Tryd.prog KG (fun x : S_api_Holding => [(aggVP [one (intVP .u32 x.f_Origin), one (strVP x.f_Token), one (strVP x.f_Owner), one (intVP .u64 x.f_Amount)])]) (fun r : Bool => (boolVP r)) a_1), .slot 7 (intVP .i64 (a_0.length : Int)), .slot 8 (intVP .i64 x5)] a w at h
    refine regS mixed hn hG h [0, 1, 2, 3, 500] (ov [3, 2] (op_bin bin_lss q0 q1) .nil) fun _ a w h => ?_
    refine wp_seq ?_
    refine cnd h hF 4 [0, 1, 2, 3] [0, 1, 2, 3] (fun hb11 hF h => ?_) (fun hb11 hF h => ?_)
    · refine wp_skip ?_
      show Code.wp Tryd.prog _ _ a w
      refine wp_seq ?_
      refine wp_block ?_
      refine regS mixed hn hG h [0, 1, 500, 2, 3] (ov [3] (op_move q0) <| ov [500] (op_assign q0) .nil) fun _ a w h => ?_
      obtain ⟨hv12, hF⟩ := ite_some hF
      obtain ⟨r13, hr13, hF⟩ := bind_some hF
      refine regS mixed hn hG h [0, 1, 2, 3, 4, 500] (ov [1] (op_move q0) <| ov [0] (op_move q0) <| ov [2] (op_move q0) <| ov [501, 500] (op_indexAddr_sl Tryd.underlying29 Tryd.sizeOf120 S_api_Holding.lens q0 q1 hv12) <| ov [500] (op_load_pp [one (intVP .u32 ((a_0.getD x5.toNat default).f_Origin)), one (strVP ((a_0.getD x5.toNat default).f_Token)), one (strVP ((a_0.getD x5.toNat default).f_Owner)), one (intVP .u64 ((a_0.getD x5.toNat default).f_Amount))] [] Tryd.isAgg120 Tryd.sizeOf120 q0 rfl) <| ov [504, 500] (op_callfn (A := (fun x : S_api_Holding => [(aggVP [one (intVP .u32 x.f_Origin), one (strVP x.f_Token), one (strVP x.f_Owner), one (intVP .u64 x.f_Amount)])])) (B := (fun r : Bool => (boolVP r))) (g := a_1) (x := (a_0.getD x5.toNat default)) q0 ⟨q1, trivial⟩ hr13) .nil) fun _ a w h => ?_
      refine cnd h hF 5 [2] [0, 1, 3, 4] (fun hb14 hF h => ?_) (fun hb14 hF h => ?_)
      · refine regS mixed hn hG h [500] (ov [0] (op_move q0) <| ov [500] (op_assign q0) .nil) fun _ a w h => ?_
        refine wp_ret ?_
        obtain rfl := Option.some.inj hF
        exact ⟨ret_ne, rfl, ret1 h Tryd.results76 (r_tmp 0 rfl) [] [] rfl rfl rfl⟩
      · refine wp_skip ?_
        show Code.wp Tryd.prog _ _ a w
        refine reg mixed hn hG h [0, 1, 2, 500] (ov [3] (op_bin bin_add q0 qi) <| od [500] 3 (op_move q0) .nil) fun _ a w h => ?_
        obtain rfl := Option.some.inj hF
        exact ⟨rfl, h.sub [0, 1, 2, 3] (by rfl)⟩
    · refine wp_exit ?_
      obtain rfl := Option.some.inj hF
      exact ⟨exit_ne _, rfl, h.sub [] (by rfl)⟩
  · clear hl16
    intro e a w hq
    cases cr15 with
    | ret r17 =>
      obtain ⟨rfl, hq⟩ := hq
      obtain rfl := Option.some.inj hF
      exact ⟨.inl rfl, hq⟩
    | next y19 =>
      obtain ⟨rfl, h⟩ := hq
      change SatL c [] a w at h
      refine inBlock_at ?_
      show Code.wp Tryd.prog _ _ a w
      refine regS mixed hn hG h [500] (ov [] (op_assign qi) .nil) fun _ a w h => ?_
      refine wp_ret ?_
      obtain rfl := Option.some.inj hF
      exact ⟨.inl rfl, ret1 h Tryd.results76 (r_tmp 0 rfl) [] [] rfl rfl rfl⟩

def purse_holding_1.j1 (x3 : Bool) : Option Bool := some x3
def purse_holding_1 (a_0 : S_api_Holding) (c_1 : S_purse_key) (c_2 : List UInt8) : Option Bool := ((purse_held a_0).bind fun r2 => (if ((decide (r2.f_origin = c_1.f_origin)) && ((decide (r2.f_name = c_1.f_name)) && true)) = true then purse_holding_1.j1 (decide (a_0.f_Owner = c_2)) else purse_holding_1.j1 false))
theorem purse_holding_1_ok {a_0 : S_api_Holding} {c_1 : S_purse_key} {c_2 : List UInt8} {r : Bool} (hF : purse_holding_1 a_0 c_1 c_2 = some r) : CallOk Tryd.prog KG 84 [(aggVP [one (intVP .u32 a_0.f_Origin), one (strVP a_0.f_Token), one (strVP a_0.f_Owner), one (intVP .u64 a_0.f_Amount)]), (ppVP [one (intVP .u32 c_1.f_origin), one (strVP c_1.f_name)]), (ppVP [one (strVP c_2)])] [] (fun _ => []) (boolVP r) := by
  refine CallOk.intro 15 Tryd.func84 rfl Tryd.ntmps84 (Nat.le_of_ble_eq_true rfl) ?_
  intro c a w hG hn h
  unfold purse_holding_1 at hF
  change SatL c [.slot 0 (aggVP [one (intVP .u32 a_0.f_Origin), one (strVP a_0.f_Token), one (strVP a_0.f_Owner), one (intVP .u64 a_0.f_Amount)]), .slot 1 (ppVP [one (intVP .u32 c_1.f_origin), one (strVP c_1.f_name)]), .slot 2 (ppVP [one (strVP c_2)])] a w at h
  refine regS mixed hn hG h [1, 2, 502, 501] (ob [0] (op_box q0 (cells_agg _)) <| ov [] (op_assign qb) .nil) fun b1 a w h => ?_
  refine wp_seq ?_
  obtain ⟨r2, hr2, hF⟩ := bind_some hF
  refine wp_cut (fun a w => ∃ (x3 : Bool), purse_holding_1.j1 x3 = some r ∧ SatL c [.slot 4 (boolVP x3)] a w) ?_ ?_
  · rcases Bool.eq_false_or_eq_true ((decide (r2.f_origin = c_1.f_origin)) && ((decide (r2.f_name = c_1.f_name)) && true)) with hb4 | hb4
    · replace hF := tt_of hb4 hF
      refine reg mixed hn hG h [500] (ov [2, 3] (op_load_w 1 Tryd.isAgg120 Tryd.sizeOf120 q0) <| oc [500] [] Tryd.call60 (purse_held_ok hr2) ⟨q0, trivial⟩ <| ov [0] (op_load_pp [one (intVP .u32 c_1.f_origin), one (strVP c_1.f_name)] [] Tryd.isAgg104 Tryd.sizeOf104 q0 rfl) <| ov [501, 500] (op_bin (bin_steql (d := 1) Tryd.underlying104 (by kernel_rfl) Tryd.eqGuardType104 (.cons (L := [one (intVP .u32 r2.f_origin)]) (M := [one (intVP .u32 c_1.f_origin)]) (by decide) rfl (eqc_int Tryd.underlying22 Tryd.isAgg22) rfl rfl (.cons (L := [one (strVP r2.f_name)]) (M := [one (strVP c_1.f_name)]) (by decide) rfl (eqc_str Tryd.underlying9 Tryd.isAgg9) rfl rfl .nil))) q0 q1) <| ov [500] (op_move q0) <| oe [500, 2] [] (GOk.on_eq hb4 rfl rfl rfl (op_fieldAddr_lbm (p := (b1 0)) (n := 1) 0 2 Tryd.underlying120 rfl Tryd.sizeOf9 (by decide) q0 rfl)) <| oe [501, 500, 3] [] (GOk.on_eq hb4 rfl rfl rfl (op_load_lb1 [one (intVP .u32 a_0.f_Origin), one (strVP a_0.f_Token)] [one (intVP .u64 a_0.f_Amount)] 1 Tryd.isAgg9 q0 rfl rfl)) <| oe [502, 1] [] (GOk.on_eq hb4 rfl rfl rfl (op_load_pp1 [] Tryd.isAgg9 q0)) <| oe [503, 501, 500] [] (GOk.on_eq hb4 rfl rfl rfl (op_bin bin_seql q0 q1)) <| ov [504, 500] (op_pick_t hb4 q0 q1) <| ov [500] (op_assign q0) .nil) fun _ a w h => ?_
      exact ⟨decide (a_0.f_Owner = c_2), hF, h.sub [0] (by rfl)⟩
    · replace hF := ff_of hb4 hF
      refine reg mixed hn hG h [500] (ov [2, 3] (op_load_w 1 Tryd.isAgg120 Tryd.sizeOf120 q0) <| oc [500] [] Tryd.call60 (purse_held_ok hr2) ⟨q0, trivial⟩ <| ov [0] (op_load_pp [one (intVP .u32 c_1.f_origin), one (strVP c_1.f_name)] [] Tryd.isAgg104 Tryd.sizeOf104 q0 rfl) <| ov [501, 500] (op_bin (bin_steql (d := 1) Tryd.underlying104 (by kernel_rfl) Tryd.eqGuardType104 (.cons (L := [one (intVP .u32 r2.f_origin)]) (M := [one (intVP .u32 c_1.f_origin)]) (by decide) rfl (eqc_int Tryd.underlying22 Tryd.isAgg22) rfl rfl (.cons (L := [one (strVP r2.f_name)]) (M := [one (strVP c_1.f_name)]) (by decide) rfl (eqc_str Tryd.underlying9 Tryd.isAgg9) rfl rfl .nil))) q0 q1) <| ov [500] (op_move q0) <| oe [500] [] (GOk.off_v (want := true) hb4 rfl rfl rfl rfl) <| oe [501] [] (GOk.off_v (want := true) hb4 rfl rfl rfl rfl) <| oe [502] [] (GOk.off_v (want := true) hb4 rfl rfl rfl rfl) <| oe [503] [] (GOk.off_v (want := true) hb4 rfl rfl rfl rfl) <| ov [504] (op_pick_f hb4 q0 qb) <| ov [500] (op_assign q0) .nil) fun _ a w h => ?_
      exact ⟨false, hF, h.sub [0] (by rfl)⟩
  · clear h hF
    rintro a w ⟨x3, hF, h⟩
    unfold purse_holding_1.j1 at hF
    show Code.wp Tryd.prog _ _ a w
    refine wp_ret ?_
    obtain rfl := Option.some.inj hF
    exact ⟨.inl rfl, ret1 h Tryd.results84 (r_tmp 0 rfl) [] [] rfl rfl rfl⟩

def purse_holding (a_0 : S_api_Purse) (a_1 : S_purse_key) (a_2 : List UInt8) : Option Int := ((slices_IndexFunc_api_Holding a_0.f_Holdings (fun x : S_api_Holding => purse_holding_1 x a_1 a_2)).bind fun r4 => some r4)
theorem purse_holding_ok {a_0 : S_api_Purse} {a_1 : S_purse_key} {a_2 : List UInt8} {r : Int} (hF : purse_holding a_0 a_1 a_2 = some r) : CallOk Tryd.prog KG 73 [(aggVP [one (slVP S_api_Token.ck a_0.f_Tokens), one (slVP S_api_Holding.ck a_0.f_Holdings)]), (aggVP [one (intVP .u32 a_1.f_origin), one (strVP a_1.f_name)]), (strVP a_2)] [] (fun _ => []) (intVP .i64 r) := by
  refine CallOk.intro 11 Tryd.func73 rfl Tryd.ntmps73 (Nat.le_of_ble_eq_true rfl) ?_
  intro c a w hG hn h
  unfold purse_holding at hF
  change SatL c [.slot 0 (aggVP [one (slVP S_api_Token.ck a_0.f_Tokens), one (slVP S_api_Holding.ck a_0.f_Holdings)]), .slot 1 (aggVP [one (intVP .u32 a_1.f_origin), one (strVP a_1.f_name)]), .slot 2 (strVP a_2)] a w at h
  refine regS mixed hn hG h [506, 504, 502, 505, 503, 501] (ob [0] (op_box q0 (cells_agg _)) <| ob [1] (op_box q0 (cells_agg _)) <| ob [2] (op_box q0 (cells_one (one_str _))) <| ov [] (op_assign qi) .nil) fun b1 a w h => ?_
  replace h := h.publish 4 rfl
  replace h := h.factslot 1 4 rfl rfl
  replace h := h.sub [0, 1, 2, 3, 5] (by rfl)
  change SatL c [.slot 3 (lpVP (b1 0) 0), .slot 4 (ppVP [one (intVP .u32 a_1.f_origin), one (strVP a_1.f_name)]), .slot 5 (lpVP (b1 2) 0), .res (lb (b1 0) 31 [one (slVP S_api_Token.ck a_0.f_Tokens), one (slVP S_api_Holding.ck a_0.f_Holdings)]), .res (lb (b1 2) 9 [one (strVP a_2)])] a w at h
  replace h := h.publish 4 rfl
  replace h := h.factslot 2 4 rfl rfl
  replace h := h.sub [0, 1, 2, 3] (by rfl)
  change SatL c [.slot 3 (lpVP (b1 0) 0), .slot 4 (ppVP [one (intVP .u32 a_1.f_origin), one (strVP a_1.f_name)]), .slot 5 (ppVP [one (strVP a_2)]), .res (lb (b1 0) 31 [one (slVP S_api_Token.ck a_0.f_Tokens), one (slVP S_api_Holding.ck a_0.f_Holdings)])] a w at h
  obtain ⟨r4, hr4, hF⟩ := bind_some hF
  refine regS mixed hn hG h [500] (ov [0] (op_fieldAddr_lbm (p := (b1 0)) (n := 1) 0 1 Tryd.underlying31 rfl Tryd.sizeOf29 (by decide) q0 rfl) <| ov [500, 3] (op_load_lb1 [one (slVP S_api_Token.ck a_0.f_Tokens)] [] 1 Tryd.isAgg29 q0 rfl rfl) <| ov [1, 2] (op_makeFunc_pp (A := (fun x : S_api_Holding => [(aggVP [one (intVP .u32 x.f_Origin), one (strVP x.f_Token), one (strVP x.f_Owner), one (intVP .u64 x.f_Amount)])])) (B := (fun r : Bool => (boolVP r))) (g := (fun x : S_api_Holding => purse_holding_1 x a_1 a_2)) (Cs := [(ppVP [one (intVP .u32 a_1.f_origin), one (strVP a_1.f_name)]), (ppVP [one (strVP a_2)])]) Tryd.call84 (fun x r h => purse_holding_1_ok h) ⟨q0, q1, trivial⟩) <| oc [501, 500] [] Tryd.call76 (slices_IndexFunc_api_Holding_ok hr4) ⟨q0, q1, trivial⟩ <| ov [500] (op_assign q0) .nil) fun _ a w h => ?_
  refine wp_ret ?_
  obtain rfl := Option.some.inj hF
  exact ⟨.inl rfl, ret1 h Tryd.results73 (r_tmp 0 rfl) [] [] rfl rfl rfl⟩

def purse_Held (a_0 : S_api_Purse) (a_1 : Int) (a_2 : List UInt8) (a_3 : List UInt8) : Option Int := ((purse_holding a_0 (S_purse_key.mk a_1 a_2) a_3).bind fun r2 => (if (decide (r2 < (0 : Int))) = true then some 0 else (if (0 : Int) ≤ r2 ∧ r2 < a_0.f_Holdings.length then some ((a_0.f_Holdings.getD r2.toNat default).f_Amount) else none)))
theorem purse_Held_ok {a_0 : S_api_Purse} {a_1 : Int} {a_2 : List UInt8} {a_3 : List UInt8} {r : Int} (hF : purse_Held a_0 a_1 a_2 a_3 = some r) : CallOk Tryd.prog KG 55 [(aggVP [one (slVP S_api_Token.ck a_0.f_Tokens), one (slVP S_api_Holding.ck a_0.f_Holdings)]), (intVP .u32 a_1), (strVP a_2), (strVP a_3)] [] (fun _ => []) (intVP .u64 r) := by
  refine CallOk.intro 24 Tryd.func55 rfl Tryd.ntmps55 (Nat.le_of_ble_eq_true rfl) ?_
  intro c a w hG hn h
  unfold purse_Held at hF
  change SatL c [.slot 0 (aggVP [one (slVP S_api_Token.ck a_0.f_Tokens), one (slVP S_api_Holding.ck a_0.f_Holdings)]), .slot 1 (intVP .u32 a_1), .slot 2 (strVP a_2), .slot 3 (strVP a_3)] a w at h
  refine regS mixed hn hG h [1, 2, 3, 502, 501] (ob [0] (op_box q0 (cells_agg _)) <| ov [] (op_assign qi) .nil) fun b1 a w h => ?_
  obtain ⟨r2, hr2, hF⟩ := bind_some hF
  refine regS mixed hn hG h [3, 500, 4] (ov [3, 4] (op_load_w 1 Tryd.isAgg31 Tryd.sizeOf31 q0) <| ov [0] (op_move q0) <| ov [1] (op_move q0) <| ov [501, 500] (op_build [(0, .tmp 11), (1, .tmp 12)] rfl bu104 z104 ⟨[], [one (intVP .u32 (0 : Int))], [one (strVP [])], [one (intVP .u32 a_1)], _, rfl, rfl, rfl, q0, (cells_one (one_int _ _)), ⟨[one (intVP .u32 a_1)], [one (strVP [])], [], [one (strVP a_2)], _, rfl, rfl, rfl, q1, (cells_one (one_str _)), rfl⟩⟩) <| ov [2] (op_move q0) <| oc [504, 501, 500] [] Tryd.call73 (purse_holding_ok hr2) ⟨q0, q1, q2, trivial⟩ <| ov [500] (op_assign q0) .nil) fun _ a w h => ?_
  refine wp_seq ?_
  refine regS mixed hn hG h [0, 1, 500, 2] (ov [1] (op_move q0) <| ov [500] (op_bin bin_lss q0 qi) .nil) fun _ a w h => ?_
  refine cnd h hF 2 [] [0, 1, 3] (fun hb3 hF h => ?_) (fun hb3 hF h => ?_)
  · refine regS mixed hn hG h [500] (ov [] (op_assign qi) .nil) fun _ a w h => ?_
    refine wp_ret ?_
    obtain rfl := Option.some.inj hF
    exact ⟨.inl rfl, ret1 h Tryd.results55 (r_tmp 0 rfl) [] [] rfl rfl rfl⟩
  · refine wp_skip ?_
    show Code.wp Tryd.prog _ _ a w
    obtain ⟨hv4, hF⟩ := ite_some hF
    refine regS mixed hn hG h [500] (ov [0] (op_fieldAddr_lbm (p := (b1 0)) (n := 1) 0 1 Tryd.underlying31 rfl Tryd.sizeOf29 (by decide) q0 rfl) <| ov [500, 2] (op_load_lb1 [one (slVP S_api_Token.ck a_0.f_Tokens)] [] 1 Tryd.isAgg29 q0 rfl rfl) <| ov [1] (op_move q0) <| ov [501, 500] (op_indexAddr_sl Tryd.underlying29 Tryd.sizeOf120 S_api_Holding.lens q0 q1 hv4) <| ov [500] (op_fieldAddr_pp (n := 1) [one (intVP .u32 ((a_0.f_Holdings.getD r2.toNat default).f_Origin)), one (strVP ((a_0.f_Holdings.getD r2.toNat default).f_Token)), one (strVP ((a_0.f_Holdings.getD r2.toNat default).f_Owner))] _ Tryd.underlying120 rfl Tryd.sizeOf23 (by decide) q0 rfl) <| ov [500] (op_load_pp1 [] Tryd.isAgg23 q0) <| ov [500] (op_assign q0) .nil) fun _ a w h => ?_
    refine wp_ret ?_
    obtain rfl := Option.some.inj hF
    exact ⟨.inl rfl, ret1 h Tryd.results55 (r_tmp 0 rfl) [] [] rfl rfl rfl⟩

def slices_Clone_api_Holding (a_0 : List (S_api_Holding)) : Option (List (S_api_Holding)) := (if a_0.length * 48 ≤ 140737488355328 then some a_0 else none)
theorem slices_Clone_api_Holding_ok {a_0 r : List (S_api_Holding)} (hF : slices_Clone_api_Holding a_0 = some r) : CallOk Tryd.prog KG 74 [(slVP S_api_Holding.ck a_0)] [] (fun _ => []) (slVP S_api_Holding.ck r) := by
  unfold slices_Clone_api_Holding at hF
  obtain ⟨hv1, hF⟩ := ite_some hF
  obtain rfl := Option.some.inj hF
  refine CallOk.intro 8 Tryd.func74 rfl Tryd.ntmps74 (Nat.le_of_ble_eq_true rfl) ?_
  intro c a w hG hn h
  change SatL c [.slot 0 (slVP S_api_Holding.ck a_0)] a w at h
  refine wp_seq ?_
  refine region_do (n := 8) [.slot 2 100000 100000 (fun _ _ => (eqVP (.slice none 0 0)))] [0] [⟨[], [], [1], [], some 2⟩] [0] mixed hn hG h (by kernel_rfl) ?_ ?_
  · exact ⟨⟨rfl, fun β => (GOk.plain (op_assign (opc (ec _))) rfl)⟩, trivial⟩
  clear h
  intro β a w h
  change SatL c [.slot 0 (slVP S_api_Holding.ck a_0)] a w at h
  clear β
  show Code.wp Tryd.prog _ _ a w
  refine wp_seq ?_
  refine wp_seq ?_
  refine region_do (n := 8) [.slot 3 100000 100000 (fun _ _ => (slVP S_api_Holding.ck a_0)), .slot 4 100000 100000 (fun _ _ => (nilqVP a_0))] [0, 1] [⟨[0], [], [1], [], some 3⟩, ⟨[1], [], [2], [0], some 4⟩] [0, 2] mixed hn hG h (by kernel_rfl) ?_ ?_
  · exact ⟨⟨rfl, fun β => (GOk.plain (op_move (opt 0 rfl)) rfl)⟩, ⟨rfl, fun β => (GOk.plain (op_bin (bin_slnil Tryd.underlying29) (opt 0 rfl) (opc (ec _))) rfl)⟩, trivial⟩
  clear h
  intro β a w h
  change SatL c [.slot 0 (slVP S_api_Holding.ck a_0), .slot 4 (nilqVP a_0)] a w at h
  clear β
  show Code.wp Tryd.prog _ _ a w
  obtain ⟨b0, hb0, h⟩ := h.nilq 1 rfl
  change SatL c [.slot 0 (slVP S_api_Holding.ck a_0), .slot 4 (boolVP b0)] a w at h
  refine cond_L h 1 rfl (fun hb => ?_) (fun hb => ?_)
  · obtain rfl := hb0 hb
    replace h := h.sub [] (by rfl)
    change SatL c [] a w at h
    refine wp_seq ?_
    refine region_do (n := 8) [.slot 2 100000 100000 (fun _ _ => (eqVP (.slice none 0 0)))] [0] [⟨[], [], [0], [], some 2⟩] [0] mixed hn hG h (by kernel_rfl) ?_ ?_
    · exact ⟨⟨rfl, fun β => (GOk.plain (op_assign (opc (ec _))) rfl)⟩, trivial⟩
    clear h
    intro β a w h
    change SatL c [.slot 2 (eqVP (.slice none 0 0))] a w at h
    clear β
    show Code.wp Tryd.prog _ _ a w
    refine wp_ret ?_
    exact ⟨.inl rfl, ret1 h Tryd.results74 (r_nil 0 rfl) [] [] rfl rfl rfl⟩
  · replace h := h.sub [0] (by rfl)
    change SatL c [.slot 0 (slVP S_api_Holding.ck a_0)] a w at h
    refine wp_skip ?_
    show Code.wp Tryd.prog _ _ a w
    refine wp_seq ?_
    refine region_do (n := 8) [.slot 5 100000 100000 (fun _ _ => empVP), .slot 6 100000 100000 (fun _ _ => (slVP S_api_Holding.ck a_0)), .slot 7 100000 100000 (fun _ _ => (slVP S_api_Holding.ck a_0)), .slot 2 100000 100000 (fun _ _ => (slVP S_api_Holding.ck a_0))] [0, 1, 2, 3] [⟨[], [], [1], [], some 5⟩, ⟨[0], [], [2], [0], some 6⟩, ⟨[1, 2], [], [3], [0, 1], some 7⟩, ⟨[3], [], [4], [0, 1, 2], some 2⟩] [4] mixed hn hG h (by kernel_rfl) ?_ ?_
    · exact ⟨⟨rfl, fun β => (GOk.plain (op_lit0 Tryd.underlying29 Tryd.sizeOf120 Tryd.zeroValue120) rfl)⟩, ⟨rfl, fun β => (GOk.plain (op_move (opt 0 rfl)) rfl)⟩, ⟨rfl, fun β => (GOk.plain (op_append_emp (i := Tryd.t120) Tryd.underlying29 Tryd.type120 rfl S_api_Holding.lens (by decide) rfl (opt 0 rfl) (opt 1 rfl) hv1) rfl)⟩, ⟨rfl, fun β => (GOk.plain (op_assign (opt 0 rfl)) rfl)⟩, trivial⟩
    clear h
    intro β a w h
    change SatL c [.slot 2 (slVP S_api_Holding.ck a_0)] a w at h
    clear β
    show Code.wp Tryd.prog _ _ a w
    refine wp_ret ?_
    exact ⟨.inl rfl, ret1 h Tryd.results74 (r_tmp 0 rfl) [] [] rfl rfl rfl⟩
theorem slices_Clone_api_Holding_own {a_0 r : List (S_api_Holding)} (hF : slices_Clone_api_Holding a_0 = some r) : CallOk Tryd.prog KG 74 [(slVP S_api_Holding.ck a_0)] [] (fun v => [own v 120 4 S_api_Holding.ck r]) anyVP := by
  unfold slices_Clone_api_Holding at hF
  obtain ⟨hv1, hF⟩ := ite_some hF
  obtain rfl := Option.some.inj hF
  refine CallOk.intro 8 Tryd.func74 rfl Tryd.ntmps74 (Nat.le_of_ble_eq_true rfl) ?_
  intro c a w hG hn h
  change SatL c [.slot 0 (slVP S_api_Holding.ck a_0)] a w at h
  have hm : a_0.length ≤ mxl := h.slotp 0 rfl (fun _ _ q => q.1)
  refine wp_seq ?_
  refine region_do (n := 8) [.slot 2 100000 100000 (fun _ _ => (eqVP (.slice none 0 0)))] [0] [⟨[], [], [1], [], some 2⟩] [0] mixed hn hG h (by kernel_rfl) ?_ ?_
  · exact ⟨⟨rfl, fun β => (GOk.plain (op_assign (opc (ec _))) rfl)⟩, trivial⟩
  clear h
  intro β a w h
  change SatL c [.slot 0 (slVP S_api_Holding.ck a_0)] a w at h
  clear β
  show Code.wp Tryd.prog _ _ a w
  refine wp_seq ?_
  refine wp_seq ?_
  refine region_do (n := 8) [.slot 3 100000 100000 (fun _ _ => (slVP S_api_Holding.ck a_0)), .slot 4 100000 100000 (fun _ _ => (nilqVP a_0))] [0, 1] [⟨[0], [], [1], [], some 3⟩, ⟨[1], [], [2], [0], some 4⟩] [0, 2] mixed hn hG h (by kernel_rfl) ?_ ?_
  · exact ⟨⟨rfl, fun β => (GOk.plain (op_move (opt 0 rfl)) rfl)⟩, ⟨rfl, fun β => (GOk.plain (op_bin (bin_slnil Tryd.underlying29) (opt 0 rfl) (opc (ec _))) rfl)⟩, trivial⟩
  clear h
  intro β a w h
  change SatL c [.slot 0 (slVP S_api_Holding.ck a_0), .slot 4 (nilqVP a_0)] a w at h
  clear β
  show Code.wp Tryd.prog _ _ a w
  obtain ⟨b0, hb0, h⟩ := h.nilq 1 rfl
  change SatL c [.slot 0 (slVP S_api_Holding.ck a_0), .slot 4 (boolVP b0)] a w at h
  refine cond_L h 1 rfl (fun hb => ?_) (fun hb => ?_)
  · obtain rfl := hb0 hb
    replace h := h.sub [] (by rfl)
    change SatL c [] a w at h
    refine wp_seq ?_
    refine region_do (n := 8) [.slot 2 100000 100000 (fun _ _ => (eqVP (.slice none 0 0)))] [0] [⟨[], [], [0], [], some 2⟩] [0] mixed hn hG h (by kernel_rfl) ?_ ?_
    · exact ⟨⟨rfl, fun β => (GOk.plain (op_assign (opc (ec _))) rfl)⟩, trivial⟩
    clear h
    intro β a w h
    change SatL c [.slot 2 (eqVP (.slice none 0 0))] a w at h
    clear β
    replace h := h.nilown 120 4 S_api_Holding.ck
    show Code.wp Tryd.prog _ _ a w
    refine wp_ret ?_
    exact ⟨.inl rfl, ret1v (p := .slice none 0 0) h Tryd.results74 (r_tmp 0 rfl) [1] _ rfl rfl rfl⟩
  · replace h := h.sub [0] (by rfl)
    change SatL c [.slot 0 (slVP S_api_Holding.ck a_0)] a w at h
    refine wp_skip ?_
    show Code.wp Tryd.prog _ _ a w
    refine wp_seq ?_
    refine region_do (n := 8) [.slot 5 0 100000 (fun v _ => (eqVP v)), .res 0 100000 (fun v _ => (own v 120 4 S_api_Holding.ck ([] : List (S_api_Holding)))), .slot 6 100000 100000 (fun _ _ => (slVP S_api_Holding.ck a_0)), .slot 7 2 100000 (fun v _ => (eqVP v)), .res 2 100000 (fun v _ => (own v 120 4 S_api_Holding.ck (([] : List (S_api_Holding)) ++ a_0))), .slot 2 2 100000 (fun v _ => (eqVP v))] [0, 0, 1, 2, 2, 3] [⟨[], [], [1, 2], [], some 5⟩, ⟨[0], [], [3], [0], some 6⟩, ⟨[1, 3], [2], [4, 5], [0, 1], some 7⟩, ⟨[4], [], [6], [0, 1, 2], some 2⟩] [6, 5] mixed hn hG h (by kernel_rfl) ?_ ?_
    · exact ⟨⟨rfl, fun β => (GOk.plain (op_lit0O Tryd.underlying29 Tryd.sizeOf120 Tryd.zeroValue120) rfl)⟩, ⟨rfl, fun β => (GOk.plain (op_move (opt 0 rfl)) rfl)⟩, ⟨rfl, fun β => (GOk.plain (op_ownAppend (i := Tryd.t120) Tryd.underlying29 Tryd.type120 rfl S_api_Holding.lens (by decide) rfl (opt 0 rfl) (opt 1 rfl) ⟨by simpa using hm, by rw [List.length_nil, Nat.zero_add]; exact hv1⟩) rfl)⟩, ⟨rfl, fun β => (GOk.plain (op_assign (V := eqVP (β 2)) (opt 0 rfl)) rfl)⟩, trivial⟩
    clear h
    intro β a w h
    change SatL c [.slot 2 (eqVP (β 2)), .res (own (β 2) 120 4 S_api_Holding.ck a_0)] a w at h
    generalize β 2 = p at h
    clear β
    show Code.wp Tryd.prog _ _ a w
    refine wp_ret ?_
    exact ⟨.inl rfl, ret1v (p := p) h Tryd.results74 (r_tmp 0 rfl) [1] _ rfl rfl rfl⟩

def purse_put_1.j1 (x6 : Bool) : Option Bool := some x6
def purse_put_1 (a_0 : S_api_Holding) (c_1 : S_purse_key) (c_2 : List UInt8) : Option Bool := ((purse_held a_0).bind fun r2 => ((purse_before c_1 r2).bind fun r3 => (if r3 = true then purse_put_1.j1 true else ((purse_held a_0).bind fun r4 => (if ((decide (c_1.f_origin = r4.f_origin)) && ((decide (c_1.f_name = r4.f_name)) && true)) = true then ((name_Order c_2 a_0.f_Owner).bind fun r5 => purse_put_1.j1 (decide (r5 < (0 : Int)))) else purse_put_1.j1 false)))))
theorem purse_put_1_ok {a_0 : S_api_Holding} {c_1 : S_purse_key} {c_2 : List UInt8} {r : Bool} (hF : purse_put_1 a_0 c_1 c_2 = some r) : CallOk Tryd.prog KG 77 [(aggVP [one (intVP .u32 a_0.f_Origin), one (strVP a_0.f_Token), one (strVP a_0.f_Owner), one (intVP .u64 a_0.f_Amount)]), (ppVP [one (intVP .u32 c_1.f_origin), one (strVP c_1.f_name)]), (ppVP [one (strVP c_2)])] [] (fun _ => []) (boolVP r) := by
  refine CallOk.intro 22 Tryd.func77 rfl Tryd.ntmps77 (Nat.le_of_ble_eq_true rfl) ?_
  intro c a w hG hn h
  unfold purse_put_1 at hF
  change SatL c [.slot 0 (aggVP [one (intVP .u32 a_0.f_Origin), one (strVP a_0.f_Token), one (strVP a_0.f_Owner), one (intVP .u64 a_0.f_Amount)]), .slot 1 (ppVP [one (intVP .u32 c_1.f_origin), one (strVP c_1.f_name)]), .slot 2 (ppVP [one (strVP c_2)])] a w at h
  refine regS mixed hn hG h [1, 2, 502, 501] (ob [0] (op_box q0 (cells_agg _)) <| ov [] (op_assign qb) .nil) fun b1 a w h => ?_
  refine wp_seq ?_
  obtain ⟨r2, hr2, hF⟩ := bind_some hF
  obtain ⟨r3, hr3, hF⟩ := bind_some hF
  refine wp_cut (fun a w => ∃ (x6 : Bool), purse_put_1.j1 x6 = some r ∧ SatL c [.slot 4 (boolVP x6)] a w) ?_ ?_
  · rcases Bool.eq_false_or_eq_true r3 with hb7 | hb7
    · replace hF := tt_of hb7 hF
      refine reg mixed hn hG h [500] (ov [0] (op_load_pp [one (intVP .u32 c_1.f_origin), one (strVP c_1.f_name)] [] Tryd.isAgg104 Tryd.sizeOf104 q0 rfl) <| ov [2, 3] (op_load_w 1 Tryd.isAgg120 Tryd.sizeOf120 q0) <| oc [500] [] Tryd.call60 (purse_held_ok hr2) ⟨q0, trivial⟩ <| oc [502, 500] [] Tryd.call50 (purse_before_ok hr3) ⟨q0, q1, trivial⟩ <| ov [500] (op_move q0) <| oe [500] [] (GOk.off_v (want := false) hb7 rfl rfl rfl rfl) <| oe [501] [] (GOk.off_v (want := false) hb7 rfl rfl rfl rfl) <| oe [502] [] (GOk.off_v (want := false) hb7 rfl rfl rfl rfl) <| oe [503] [] (GOk.off_v (want := false) hb7 rfl rfl rfl rfl) <| oe [504] [] (GOk.off_v (want := false) hb7 rfl rfl rfl rfl) <| oe [500] [] (GOk.off_u rfl rfl rfl rfl) <| oe [501] [] (GOk.off_u rfl rfl rfl rfl) <| oe [502] [] (GOk.off_u rfl rfl rfl rfl) <| oe [503] [] (GOk.off_u rfl rfl rfl rfl) <| oe [504] [] (GOk.off_u rfl rfl rfl rfl) <| oe [510] [] (GOk.off_v (want := false) hb7 rfl rfl rfl rfl) <| ov [511] (op_pick_t hb7 q0 qb) <| ov [500] (op_assign q0) .nil) fun _ a w h => ?_
      exact ⟨true, hF, h.sub [0] (by rfl)⟩
    · replace hF := ff_of hb7 hF
      obtain ⟨r4, hr4, hF⟩ := bind_some hF
      rcases Bool.eq_false_or_eq_true ((decide (c_1.f_origin = r4.f_origin)) && ((decide (c_1.f_name = r4.f_name)) && true)) with hb8 | hb8
      · replace hF := tt_of hb8 hF
        obtain ⟨r5, hr5, hF⟩ := bind_some hF
        refine reg mixed hn hG h [500] (ov [0] (op_load_pp [one (intVP .u32 c_1.f_origin), one (strVP c_1.f_name)] [] Tryd.isAgg104 Tryd.sizeOf104 q0 rfl) <| ov [2, 3] (op_load_w 1 Tryd.isAgg120 Tryd.sizeOf120 q0) <| oc [500] [] Tryd.call60 (purse_held_ok hr2) ⟨q0, trivial⟩ <| oc [502, 500] [] Tryd.call50 (purse_before_ok hr3) ⟨q0, q1, trivial⟩ <| ov [500] (op_move q0) <| oe [500, 0] [] (GOk.on_eq hb7 rfl rfl rfl (op_load_pp [one (intVP .u32 c_1.f_origin), one (strVP c_1.f_name)] [] Tryd.isAgg104 Tryd.sizeOf104 q0 rfl)) <| oe [501, 2, 3] [] (GOk.on_eq hb7 rfl rfl rfl (op_load_w 1 Tryd.isAgg120 Tryd.sizeOf120 q0)) <| oe [502, 500] [] (GOk.on_eq hb7 rfl rfl rfl (op_call Tryd.call60 (purse_held_ok hr4) ⟨q0, trivial⟩)) <| oe [503, 502, 500] [] (GOk.on_eq hb7 rfl rfl rfl (op_bin (bin_steql (d := 1) Tryd.underlying104 (by kernel_rfl) Tryd.eqGuardType104 (.cons (L := [one (intVP .u32 c_1.f_origin)]) (M := [one (intVP .u32 r4.f_origin)]) (by decide) rfl (eqc_int Tryd.underlying22 Tryd.isAgg22) rfl rfl (.cons (L := [one (strVP c_1.f_name)]) (M := [one (strVP r4.f_name)]) (by decide) rfl (eqc_str Tryd.underlying9 Tryd.isAgg9) rfl rfl .nil))) q0 q1)) <| oe [504, 500] [] (GOk.on_eq hb7 rfl rfl rfl (op_move q0)) <| oe [500, 1] [] (GOk.on_eq hb8 rfl rfl rfl (op_load_pp1 [] Tryd.isAgg9 q0)) <| oe [501, 2] [] (GOk.on_eq hb8 rfl rfl rfl (op_fieldAddr_lbm (p := (b1 0)) (n := 1) 0 2 Tryd.underlying120 rfl Tryd.sizeOf9 (by decide) q0 rfl)) <| oe [502, 500, 3] [] (GOk.on_eq hb8 rfl rfl rfl (op_load_lb1 [one (intVP .u32 a_0.f_Origin), one (strVP a_0.f_Token)] [one (intVP .u64 a_0.f_Amount)] 1 Tryd.isAgg9 q0 rfl rfl)) <| oe [503, 502, 500] [] (GOk.on_eq hb8 rfl rfl rfl (op_call Tryd.call70 (name_Order_ok hr5) ⟨q0, q1, trivial⟩)) <| oe [504, 500] [] (GOk.on_eq hb8 rfl rfl rfl (op_bin bin_lss q0 qi)) <| oe [510, 505, 500] [] (GOk.on_eq hb7 rfl rfl rfl (op_pick_t hb8 q0 q1)) <| ov [511, 500] (op_pick_f hb7 q0 q1) <| ov [500] (op_assign q0) .nil) fun _ a w h => ?_
        exact ⟨decide (r5 < (0 : Int)), hF, h.sub [0] (by rfl)⟩
      · replace hF := ff_of hb8 hF
        refine reg mixed hn hG h [500] (ov [0] (op_load_pp [one (intVP .u32 c_1.f_origin), one (strVP c_1.f_name)] [] Tryd.isAgg104 Tryd.sizeOf104 q0 rfl) <| ov [2, 3] (op_load_w 1 Tryd.isAgg120 Tryd.sizeOf120 q0) <| oc [500] [] Tryd.call60 (purse_held_ok hr2) ⟨q0, trivial⟩ <| oc [502, 500] [] Tryd.call50 (purse_before_ok hr3) ⟨q0, q1, trivial⟩ <| ov [500] (op_move q0) <| oe [500, 0] [] (GOk.on_eq hb7 rfl rfl rfl (op_load_pp [one (intVP .u32 c_1.f_origin), one (strVP c_1.f_name)] [] Tryd.isAgg104 Tryd.sizeOf104 q0 rfl)) <| oe [501, 2, 3] [] (GOk.on_eq hb7 rfl rfl rfl (op_load_w 1 Tryd.isAgg120 Tryd.sizeOf120 q0)) <| oe [502, 500] [] (GOk.on_eq hb7 rfl rfl rfl (op_call Tryd.call60 (purse_held_ok hr4) ⟨q0, trivial⟩)) <| oe [503, 502, 500] [] (GOk.on_eq hb7 rfl rfl rfl (op_bin (bin_steql (d := 1) Tryd.underlying104 (by kernel_rfl) Tryd.eqGuardType104 (.cons (L := [one (intVP .u32 c_1.f_origin)]) (M := [one (intVP .u32 r4.f_origin)]) (by decide) rfl (eqc_int Tryd.underlying22 Tryd.isAgg22) rfl rfl (.cons (L := [one (strVP c_1.f_name)]) (M := [one (strVP r4.f_name)]) (by decide) rfl (eqc_str Tryd.underlying9 Tryd.isAgg9) rfl rfl .nil))) q0 q1)) <| oe [504, 500] [] (GOk.on_eq hb7 rfl rfl rfl (op_move q0)) <| oe [500] [] (GOk.off_v (want := true) hb8 rfl rfl rfl rfl) <| oe [501] [] (GOk.off_v (want := true) hb8 rfl rfl rfl rfl) <| oe [502] [] (GOk.off_v (want := true) hb8 rfl rfl rfl rfl) <| oe [503] [] (GOk.off_v (want := true) hb8 rfl rfl rfl rfl) <| oe [504] [] (GOk.off_v (want := true) hb8 rfl rfl rfl rfl) <| oe [510, 505] [] (GOk.on_eq hb7 rfl rfl rfl (op_pick_f hb8 q0 qb)) <| ov [511, 500] (op_pick_f hb7 q0 q1) <| ov [500] (op_assign q0) .nil) fun _ a w h => ?_
        exact ⟨false, hF, h.sub [0] (by rfl)⟩
  · clear h hF
    rintro a w ⟨x6, hF, h⟩
    unfold purse_put_1.j1 at hF
    show Code.wp Tryd.prog _ _ a w
    refine wp_ret ?_
    obtain rfl := Option.some.inj hF
    exact ⟨.inl rfl, ret1 h Tryd.results77 (r_tmp 0 rfl) [] [] rfl rfl rfl⟩

def slices_Insert_api_Holding (a_0 : List (S_api_Holding)) (a_1 : Int) (a_2 : List (S_api_Holding)) : Option (List (S_api_Holding)) := (if (0 : Int) ≤ a_1 ∧ a_1 ≤ (a_0.length : Int) ∧ (a_0.length : Int) ≤ a_0.length then (if (decide ((a_2.length : Int) = (0 : Int))) = true then some a_0 else (if (decide (a_1 = (a_0.length : Int))) = true then (if a_0.length + a_2.length ≤ mxl ∧ (a_0.length + a_2.length) * 48 ≤ 140737488355328 then some (a_0 ++ a_2) else none) else none)) else none)
theorem slices_Insert_api_Holding_ok {p_0 : Value} {a_0 : List (S_api_Holding)} {a_1 : Int} {a_2 : List (S_api_Holding)} {r : (List (S_api_Holding))} (hF : slices_Insert_api_Holding a_0 a_1 a_2 = some r) : CallOk Tryd.prog KG 78 [(eqVP p_0), (intVP .i64 a_1), (slVP S_api_Holding.ck a_2)] [(acc p_0 120 4 S_api_Holding.ck a_0)] (fun v => [acc v 120 4 S_api_Holding.ck r]) anyVP := by
  refine CallOk.intro 95 Tryd.func78 rfl Tryd.ntmps78 (Nat.le_of_ble_eq_true rfl) ?_
  intro c a w hG hn h
  unfold slices_Insert_api_Holding at hF
  change SatL c [.slot 0 (eqVP p_0), .slot 1 (intVP .i64 a_1), .slot 2 (slVP S_api_Holding.ck a_2), .res (acc p_0 120 4 S_api_Holding.ck a_0)] a w at h
  refine regS mixed hn hG h [0, 1, 2, 3] (ov [] (op_assign (opc (ec _))) .nil) fun _ a w h => ?_
  obtain ⟨hv1, hF⟩ := ite_some hF
  refine regS mixed hn hG h [0, 1, 2, 3] (ov [0] (op_move q0) <| ov [1] (op_move q0) <| ov [501, 3, 500] (op_slice_sl (a := a_1) (b := (a_0.length : Int)) Tryd.underlying29 Tryd.sizeOf120 S_api_Holding.lens (opacc 0 1 rfl rfl) ⟨_, q2⟩ rfl hv1) .nil) fun _ a w h => ?_
  refine regS mixed hn hG h [0, 1, 2, 500, 3] (ov [2] (op_move q0) <| ov [500] (op_len_sl Tryd.underlying29 q0) <| ov [500] (op_assign q0) .nil) fun _ a w h => ?_
  refine wp_seq ?_
  refine regS mixed hn hG h [0, 1, 2, 3, 500, 4] (ov [3] (op_move q0) <| ov [500] (op_bin bin_eql q0 qi) .nil) fun _ a w h => ?_
  refine cnd h hF 4 [0, 5] [0, 1, 2, 3, 5] (fun hb2 hF h => ?_) (fun hb2 hF h => ?_)
  · refine regS mixed hn hG h [500, 1] (ov [0] (op_move q0) <| ov [500] (op_assign q0) .nil) fun _ a w h => ?_
    refine wp_ret ?_
    obtain rfl := Option.some.inj hF
    exact ⟨.inl rfl, ret1v (p := p_0) h Tryd.results78 (r_tmp 0 rfl) [1] _ rfl rfl rfl⟩
  · refine wp_skip ?_
    show Code.wp Tryd.prog _ _ a w
    refine regS mixed hn hG h [0, 1, 2, 3, 500, 4] (ov [0] (op_move q0) <| ov [500, 4] (op_len_sl Tryd.underlying29 (opacc 0 1 rfl rfl)) <| ov [500] (op_assign q0) .nil) fun _ a w h => ?_
    refine wp_seq ?_
    refine regS mixed hn hG h [0, 1, 2, 3, 4, 500, 5] (ov [1] (op_move q0) <| ov [4] (op_move q0) <| ov [501, 500] (op_bin bin_eql q0 q1) .nil) fun _ a w h => ?_
    refine cnd h hF 5 [0, 2, 6] [0, 1, 2, 3, 4, 6] (fun hb3 hF h => ?_) (fun hb3 hF h => ?_)
    · obtain ⟨hv4, hF⟩ := ite_some hF
      refine regS mixed hn hG h [500, 501] (ov [0] (op_move q0) <| ov [1] (op_move q0) <| og [501, 500] [2] [.slot 25 2 100000 (fun v1_ _ => (eqVP v1_)), .res 2 100000 (fun v1_ _ => (acc (v1_) 120 4 S_api_Holding.ck (a_0 ++ a_2)))] (GOk.plain (op_append (i := Tryd.t120) Tryd.underlying29 Tryd.type120 rfl S_api_Holding.lens (by decide) rfl q0 q1 hv4) rfl) <| og [501] [] [.slot 6 2 100000 (fun v1_ _ => (eqVP v1_))] (fun {β} => (GOk.plain (op_assign (V := (eqVP (β 2))) q0) rfl)) .nil) fun b5 a w h => ?_
      refine wp_ret ?_
      obtain rfl := Option.some.inj hF
      exact ⟨.inl rfl, ret1v (p := (b5 2)) h Tryd.results78 (r_tmp 0 rfl) [1] _ rfl rfl rfl⟩
    · cases hF

def purse_put.j2 (a_0 : S_api_Purse) (x26 : List (S_api_Holding)) : Option S_api_Purse := some (S_api_Purse.mk a_0.f_Tokens x26)
def purse_put.j3 (a_0 : S_api_Purse) (a_1 : S_purse_key) (a_2 : List UInt8) (a_3 : Int) (r5 : List (S_api_Holding)) (x32 : Int) : Option S_api_Purse := ((slices_Insert_api_Holding r5 x32 [(S_api_Holding.mk a_1.f_origin a_1.f_name a_2 a_3)]).bind fun r33 => purse_put.j2 a_0 r33)
def purse_put.j1 (a_0 : S_api_Purse) (a_1 : S_purse_key) (a_2 : List UInt8) (a_3 : Int) (r5 : List (S_api_Holding)) (r7 : Int) (x8 : Bool) : Option S_api_Purse := (if x8 = true then none else (if (decide ((0 : Int) ≤ r7)) = true then (if (0 : Int) ≤ r7 ∧ r7 < r5.length then purse_put.j2 a_0 (r5.set r7.toNat (S_api_Holding.mk ((r5.getD r7.toNat default).f_Origin) ((r5.getD r7.toNat default).f_Token) ((r5.getD r7.toNat default).f_Owner) a_3)) else none) else (if (decide ((0 : Int) < a_3)) = true then ((slices_IndexFunc_api_Holding r5 (fun x : S_api_Holding => purse_put_1 x a_1 a_2)).bind fun r31 => (if (decide (r31 < (0 : Int))) = true then purse_put.j3 a_0 a_1 a_2 a_3 r5 (r5.length : Int) else purse_put.j3 a_0 a_1 a_2 a_3 r5 r31)) else purse_put.j2 a_0 r5)))
def purse_put (a_0 : S_api_Purse) (a_1 : S_purse_key) (a_2 : List UInt8) (a_3 : Int) : Option S_api_Purse := ((slices_Clone_api_Holding a_0.f_Holdings).bind fun r5 => ((purse_holding a_0 a_1 a_2).bind fun r7 => (if (decide ((0 : Int) ≤ r7)) = true then purse_put.j1 a_0 a_1 a_2 a_3 r5 r7 (decide (a_3 = (0 : Int))) else purse_put.j1 a_0 a_1 a_2 a_3 r5 r7 false)))
theorem purse_put_ok {a_0 : S_api_Purse} {a_1 : S_purse_key} {a_2 : List UInt8} {a_3 : Int} {r : S_api_Purse} (hF : purse_put a_0 a_1 a_2 a_3 = some r) : CallOk Tryd.prog KG 56 [(aggVP [one (slVP S_api_Token.ck a_0.f_Tokens), one (slVP S_api_Holding.ck a_0.f_Holdings)]), (aggVP [one (intVP .u32 a_1.f_origin), one (strVP a_1.f_name)]), (strVP a_2), (intVP .u64 a_3)] [] (fun _ => []) (aggVP [one (slVP S_api_Token.ck r.f_Tokens), one (slVP S_api_Holding.ck r.f_Holdings)]) := by
  refine CallOk.intro 62 Tryd.func56 rfl Tryd.ntmps56 (Nat.le_of_ble_eq_true rfl) ?_
  intro c a w hG hn h
  unfold purse_put at hF
  change SatL c [.slot 0 (aggVP [one (slVP S_api_Token.ck a_0.f_Tokens), one (slVP S_api_Holding.ck a_0.f_Holdings)]), .slot 1 (aggVP [one (intVP .u32 a_1.f_origin), one (strVP a_1.f_name)]), .slot 2 (strVP a_2), .slot 3 (intVP .u64 a_3)] a w at h
  refine regS mixed hn hG h [3, 507, 505, 503, 501, 506, 504, 502, 500] (ob [0] (op_box q0 (cells_agg _)) <| ob [1] (op_box q0 (cells_agg _)) <| ob [2] (op_box q0 (cells_one (one_str _))) <| ob [] (op_alloc Tryd.zeroValue31 z31) .nil) fun b1 a w h => ?_
  obtain ⟨r5, hr5, hF⟩ := bind_some hF
  refine regS mixed hn hG h [0, 1, 2, 3, 4, 500, 5, 6, 7, 8, 501] (ov [1] (op_fieldAddr_lbm (p := (b1 0)) (n := 1) 0 1 Tryd.underlying31 rfl Tryd.sizeOf29 (by decide) q0 rfl) <| ov [500, 5] (op_load_lb1 [one (slVP S_api_Token.ck a_0.f_Tokens)] [] 1 Tryd.isAgg29 q0 rfl rfl) <| og [500] [] [.slot 13 2 100000 (fun v1_ _ => (eqVP v1_)), .res 2 100000 (fun v1_ _ => (own (v1_) 120 4 S_api_Holding.ck r5))] (GOk.plain (op_callv Tryd.call74 (slices_Clone_api_Holding_own hr5) ⟨q0, trivial⟩) rfl) <| og [501] [] [.slot 9 2 100000 (fun v1_ _ => (eqVP v1_))] (fun {β} => (GOk.plain (op_assign (V := (eqVP (β 2))) q0) rfl)) .nil) fun b6 a w h => ?_
  obtain ⟨r7, hr7, hF⟩ := bind_some hF
  refine regS mixed hn hG h [0, 1, 2, 3, 4, 5, 500, 6, 7, 8, 9, 10] (ov [1, 6] (op_load_w 1 Tryd.isAgg31 Tryd.sizeOf31 q0) <| ov [2, 7] (op_load_w 1 Tryd.isAgg104 Tryd.sizeOf104 q0) <| ov [3, 8] (op_load_lb1 [] [] 1 Tryd.isAgg9 q0 rfl rfl) <| oc [502, 501, 500] [] Tryd.call73 (purse_holding_ok hr7) ⟨q0, q1, q2, trivial⟩ <| ov [500] (op_assign q0) .nil) fun _ a w h => ?_
  refine wp_seq ?_
  refine wp_block ?_
  refine wp_seq ?_
  refine wp_cut (fun a w => ∃ (x8 : Bool), purse_put.j1 a_0 a_1 a_2 a_3 r5 r7 x8 = some r ∧ SatL c [.slot 3 (intVP .u64 a_3), .slot 4 (lpVP (b1 0) 0), .slot 5 (lpVP (b1 1) 0), .slot 6 (lpVP (b1 2) 0), .slot 8 (lpVP (b1 3) 0), .slot 9 (eqVP (b6 2)), .slot 10 (intVP .i64 r7), .slot 18 (boolVP x8), .res (lb (b1 0) 31 [one (slVP S_api_Token.ck a_0.f_Tokens), one (slVP S_api_Holding.ck a_0.f_Holdings)]), .res (lb (b1 1) 104 [one (intVP .u32 a_1.f_origin), one (strVP a_1.f_name)]), .res (lb (b1 2) 9 [one (strVP a_2)]), .res (lb (b1 3) 31 [one (slVP S_api_Token.ck ((S_api_Purse.mk [] []).f_Tokens)), one (slVP S_api_Holding.ck ((S_api_Purse.mk [] []).f_Holdings))]), .res (own (b6 2) 120 4 S_api_Holding.ck r5)] a w) ?_ ?_
  · rcases Bool.eq_false_or_eq_true (decide ((0 : Int) ≤ r7)) with hb36 | hb36
    · replace hF := tt_of hb36 hF
      refine reg mixed hn hG h [0, 1, 2, 3, 4, 5, 6, 500, 7, 8, 9, 10, 11] (ov [6] (op_move q0) <| ov [500] (op_bin bin_geq q0 qi) <| ov [500] (op_move q0) <| oe [500, 0] [] (GOk.on_eq hb36 rfl rfl rfl (op_move q0)) <| oe [501, 500] [] (GOk.on_eq hb36 rfl rfl rfl (op_bin bin_eql q0 qi)) <| ov [502, 500] (op_pick_t hb36 q0 q1) <| ov [500] (op_assign q0) .nil) fun _ a w h => ?_
      exact ⟨decide (a_3 = (0 : Int)), hF, h.sub [0, 1, 2, 3, 4, 5, 6, 7, 8, 9, 10, 11, 12] (by rfl)⟩
    · replace hF := ff_of hb36 hF
      refine reg mixed hn hG h [0, 1, 2, 3, 4, 5, 6, 500, 7, 8, 9, 10, 11] (ov [6] (op_move q0) <| ov [500] (op_bin bin_geq q0 qi) <| ov [500] (op_move q0) <| oe [500] [] (GOk.off_v (want := true) hb36 rfl rfl rfl rfl) <| oe [501] [] (GOk.off_v (want := true) hb36 rfl rfl rfl rfl) <| ov [502] (op_pick_f hb36 q0 qb) <| ov [500] (op_assign q0) .nil) fun _ a w h => ?_
      exact ⟨false, hF, h.sub [0, 1, 2, 3, 4, 5, 6, 7, 8, 9, 10, 11, 12] (by rfl)⟩
  · clear h hF
    rintro a w ⟨x8, hF, h⟩
    unfold purse_put.j1 at hF
    show Code.wp Tryd.prog _ _ a w
    refine cnd h hF 7 [1, 4, 5, 6, 8, 11, 12] [0, 1, 2, 3, 4, 5, 6, 8, 9, 10, 11, 12] (fun hb18 hF h => ?_) (fun hb18 hF h => ?_)
    · cases hF
    · refine regS mixed hn hG h [0, 1, 2, 3, 4, 5, 6, 500, 7, 8, 9, 10, 11] (ov [6] (op_move q0) <| ov [500] (op_bin bin_geq q0 qi) <| ov [500] (op_assign q0) .nil) fun _ a w h => ?_
      refine wp_cut (fun a w => ∃ (x26 : List (S_api_Holding)), ∃ q27 : Value, purse_put.j2 a_0 x26 = some r ∧ SatL c [.slot 4 (lpVP (b1 0) 0), .slot 8 (lpVP (b1 3) 0), .slot 9 (eqVP q27), .res (lb (b1 0) 31 [one (slVP S_api_Token.ck a_0.f_Tokens), one (slVP S_api_Holding.ck a_0.f_Holdings)]), .res (lb (b1 3) 31 [one (slVP S_api_Token.ck ((S_api_Purse.mk [] []).f_Tokens)), one (slVP S_api_Holding.ck ((S_api_Purse.mk [] []).f_Holdings))]), .res (acc q27 120 4 S_api_Holding.ck x26)] a w) ?_ ?_
      · refine cnd h hF 7 [0, 1, 4, 5, 6, 8, 11, 12] [0, 1, 2, 3, 4, 5, 8, 9, 10, 11, 12] (fun hb28 hF h => ?_) (fun hb28 hF h => ?_)
        · obtain ⟨hv29, hF⟩ := ite_some hF
          refine reg mixed hn hG h [1, 2, 3, 5, 6, 500] (ov [3] (op_move q0) <| ov [4] (op_move q0) <| ov [0] (op_move q0) <| ov [502, 7, 501] (op_indexAddr_own 0 1 Tryd.underlying29 Tryd.sizeOf120 rfl rfl q2 hv29) <| ov [500] (op_fieldAddr_own (n := 1) (r7.toNat * 4) (r7.toNat * 4 + 3) Tryd.underlying120 rfl Tryd.sizeOf23 (by decide) q0 rfl) <| ou [500, 502] 7 (op_store_own (i := r7) (c := S_api_Holding.ck) (z := (S_api_Holding.mk ((r5.getD r7.toNat default).f_Origin) ((r5.getD r7.toNat default).f_Token) ((r5.getD r7.toNat default).f_Owner) a_3)) S_api_Holding.lens [one (intVP .u32 ((r5.getD r7.toNat default).f_Origin)), one (strVP ((r5.getD r7.toNat default).f_Token)), one (strVP ((r5.getD r7.toNat default).f_Owner))] [one (intVP .u64 ((r5.getD r7.toNat default).f_Amount))] [] [one (intVP .u64 a_3)] Tryd.sizeOf23 q0 q1 (cells_one (one_int _ _)) rfl rfl rfl rfl rfl hv29) .nil) fun _ a w h => ?_
          replace h := h.ownacc 5 rfl
          change SatL c [.slot 4 (lpVP (b1 0) 0), .slot 8 (lpVP (b1 3) 0), .slot 9 (eqVP (b6 2)), .res (lb (b1 0) 31 [one (slVP S_api_Token.ck a_0.f_Tokens), one (slVP S_api_Holding.ck a_0.f_Holdings)]), .res (lb (b1 3) 31 [one (slVP S_api_Token.ck ((S_api_Purse.mk [] []).f_Tokens)), one (slVP S_api_Holding.ck ((S_api_Purse.mk [] []).f_Holdings))]), .res (acc (b6 2) 120 4 S_api_Holding.ck (r5.set r7.toNat (S_api_Holding.mk ((r5.getD r7.toNat default).f_Origin) ((r5.getD r7.toNat default).f_Token) ((r5.getD r7.toNat default).f_Owner) a_3)))] a w at h
          exact ⟨r5.set r7.toNat (S_api_Holding.mk ((r5.getD r7.toNat default).f_Origin) ((r5.getD r7.toNat default).f_Token) ((r5.getD r7.toNat default).f_Owner) a_3), (b6 2), hF, h.sub [0, 1, 2, 3, 4, 5] (by rfl)⟩
        · refine regS mixed hn hG h [0, 1, 2, 3, 4, 5, 500, 6, 7, 8, 9, 10] (ov [0] (op_move q0) <| ov [500] (op_bin bin_gtr q0 qi) <| ov [500] (op_assign q0) .nil) fun _ a w h => ?_
          refine cnd h hF 6 [0, 1, 2, 3, 4, 5, 7, 8, 9, 10, 11] [1, 4, 5, 7, 10, 11] (fun hb30 hF h => ?_) (fun hb30 hF h => ?_)
          · replace h := h.publish 7 rfl
            replace h := h.factslot 2 7 rfl rfl
            replace h := h.sub [0, 1, 2, 3, 4, 5, 6, 8, 9, 10] (by rfl)
            change SatL c [.slot 3 (intVP .u64 a_3), .slot 4 (lpVP (b1 0) 0), .slot 5 (ppVP [one (intVP .u32 a_1.f_origin), one (strVP a_1.f_name)]), .slot 6 (lpVP (b1 2) 0), .slot 8 (lpVP (b1 3) 0), .slot 9 (eqVP (b6 2)), .res (lb (b1 0) 31 [one (slVP S_api_Token.ck a_0.f_Tokens), one (slVP S_api_Holding.ck a_0.f_Holdings)]), .res (lb (b1 2) 9 [one (strVP a_2)]), .res (lb (b1 3) 31 [one (slVP S_api_Token.ck ((S_api_Purse.mk [] []).f_Tokens)), one (slVP S_api_Holding.ck ((S_api_Purse.mk [] []).f_Holdings))]), .res (own (b6 2) 120 4 S_api_Holding.ck r5)] a w at h
            replace h := h.publish 7 rfl
            replace h := h.factslot 3 7 rfl rfl
            replace h := h.sub [0, 1, 2, 3, 4, 5, 6, 8, 9] (by rfl)
            change SatL c [.slot 3 (intVP .u64 a_3), .slot 4 (lpVP (b1 0) 0), .slot 5 (ppVP [one (intVP .u32 a_1.f_origin), one (strVP a_1.f_name)]), .slot 6 (ppVP [one (strVP a_2)]), .slot 8 (lpVP (b1 3) 0), .slot 9 (eqVP (b6 2)), .res (lb (b1 0) 31 [one (slVP S_api_Token.ck a_0.f_Tokens), one (slVP S_api_Holding.ck a_0.f_Holdings)]), .res (lb (b1 3) 31 [one (slVP S_api_Token.ck ((S_api_Purse.mk [] []).f_Tokens)), one (slVP S_api_Holding.ck ((S_api_Purse.mk [] []).f_Holdings))]), .res (own (b6 2) 120 4 S_api_Holding.ck r5)] a w at h
            replace h := h.ownacc 8 rfl
            change SatL c [.slot 3 (intVP .u64 a_3), .slot 4 (lpVP (b1 0) 0), .slot 5 (ppVP [one (intVP .u32 a_1.f_origin), one (strVP a_1.f_name)]), .slot 6 (ppVP [one (strVP a_2)]), .slot 8 (lpVP (b1 3) 0), .slot 9 (eqVP (b6 2)), .res (lb (b1 0) 31 [one (slVP S_api_Token.ck a_0.f_Tokens), one (slVP S_api_Holding.ck a_0.f_Holdings)]), .res (lb (b1 3) 31 [one (slVP S_api_Token.ck ((S_api_Purse.mk [] []).f_Tokens)), one (slVP S_api_Holding.ck ((S_api_Purse.mk [] []).f_Holdings))]), .res (acc (b6 2) 120 4 S_api_Holding.ck r5)] a w at h
            obtain ⟨r31, hr31, hF⟩ := bind_some hF
            refine regS mixed hn hG h [0, 1, 2, 3, 4, 5, 500, 6, 7, 8] (ov [5] (op_move q0) <| ov [2, 3] (op_makeFunc_pp (A := (fun x : S_api_Holding => [(aggVP [one (intVP .u32 x.f_Origin), one (strVP x.f_Token), one (strVP x.f_Owner), one (intVP .u64 x.f_Amount)])])) (B := (fun r : Bool => (boolVP r))) (g := (fun x : S_api_Holding => purse_put_1 x a_1 a_2)) (Cs := [(ppVP [one (intVP .u32 a_1.f_origin), one (strVP a_1.f_name)]), (ppVP [one (strVP a_2)])]) Tryd.call77 (fun x r h => purse_put_1_ok h) ⟨q0, q1, trivial⟩) <| oc [501, 8, 500] [] Tryd.call76 (slices_IndexFunc_api_Holding_ok hr31) ⟨(opacc 0 1 rfl rfl), q2, trivial⟩ <| ov [500] (op_assign q0) .nil) fun _ a w h => ?_
            refine wp_seq ?_
            refine regS mixed hn hG h [0, 1, 2, 3, 4, 5, 6, 500, 7, 8, 9] (ov [6] (op_move q0) <| ov [500] (op_bin bin_lss q0 qi) .nil) fun _ a w h => ?_
            refine wp_cut (fun a w => ∃ (x32 : Int), purse_put.j3 a_0 a_1 a_2 a_3 r5 x32 = some r ∧ SatL c [.slot 3 (intVP .u64 a_3), .slot 4 (lpVP (b1 0) 0), .slot 5 (ppVP [one (intVP .u32 a_1.f_origin), one (strVP a_1.f_name)]), .slot 6 (ppVP [one (strVP a_2)]), .slot 8 (lpVP (b1 3) 0), .slot 9 (eqVP (b6 2)), .slot 10 (intVP .i64 x32), .res (lb (b1 0) 31 [one (slVP S_api_Token.ck a_0.f_Tokens), one (slVP S_api_Holding.ck a_0.f_Holdings)]), .res (lb (b1 3) 31 [one (slVP S_api_Token.ck ((S_api_Purse.mk [] []).f_Tokens)), one (slVP S_api_Holding.ck ((S_api_Purse.mk [] []).f_Holdings))]), .res (acc (b6 2) 120 4 S_api_Holding.ck r5)] a w) ?_ ?_
            · refine cnd h hF 7 [0, 1, 2, 3, 4, 5, 8, 9, 10] [0, 1, 2, 3, 4, 5, 6, 8, 9, 10] (fun hb35 hF h => ?_) (fun hb35 hF h => ?_)
              · refine reg mixed hn hG h [0, 1, 2, 3, 4, 5, 500, 6, 7, 8] (ov [5] (op_move q0) <| ov [500, 8] (op_len_sl Tryd.underlying29 (opacc 0 1 rfl rfl)) <| ov [500] (op_assign q0) .nil) fun _ a w h => ?_
                exact ⟨(r5.length : Int), hF, h.sub [0, 1, 2, 3, 4, 5, 6, 7, 8, 9] (by rfl)⟩
              · refine wp_skip ?_
                exact ⟨r31, hF, h.sub [0, 1, 2, 3, 4, 5, 6, 7, 8, 9] (by rfl)⟩
            · clear h hF
              rintro a w ⟨x32, hF, h⟩
              unfold purse_put.j3 at hF
              show Code.wp Tryd.prog _ _ a w
              obtain ⟨r33, hr33, hF⟩ := bind_some hF
              refine reg mixed hn hG h [1, 4, 500, 7, 8, 501] (ov [5] (op_move q0) <| ov [6] (op_move q0) <| ov [2] (op_fieldAddr_pp (n := 1) [] _ Tryd.underlying104 rfl Tryd.sizeOf22 (by decide) q0 rfl) <| ov [500] (op_load_pp1 [one (strVP a_1.f_name)] Tryd.isAgg22 q0) <| ov [2] (op_fieldAddr_pp (n := 1) [one (intVP .u32 a_1.f_origin)] _ Tryd.underlying104 rfl Tryd.sizeOf9 (by decide) q0 rfl) <| ov [500] (op_load_pp1 [] Tryd.isAgg9 q0) <| ov [3] (op_load_pp1 [] Tryd.isAgg9 q0) <| ov [0] (op_move q0) <| ov [504, 502, 501, 500] (op_build [(0, .tmp 51), (1, .tmp 53), (2, .tmp 54), (3, .tmp 55)] rfl bu120 z120 ⟨[], [one (intVP .u32 (0 : Int))], [one (strVP []), one (strVP []), one (intVP .u64 (0 : Int))], [one (intVP .u32 a_1.f_origin)], _, rfl, rfl, rfl, q0, (cells_one (one_int _ _)), ⟨[one (intVP .u32 a_1.f_origin)], [one (strVP [])], [one (strVP []), one (intVP .u64 (0 : Int))], [one (strVP a_1.f_name)], _, rfl, rfl, rfl, q1, (cells_one (one_str _)), ⟨[one (intVP .u32 a_1.f_origin), one (strVP a_1.f_name)], [one (strVP [])], [one (intVP .u64 (0 : Int))], [one (strVP a_2)], _, rfl, rfl, rfl, q2, (cells_one (one_str _)), ⟨[one (intVP .u32 a_1.f_origin), one (strVP a_1.f_name), one (strVP a_2)], [one (intVP .u64 (0 : Int))], [], [one (intVP .u64 a_3)], _, rfl, rfl, rfl, q3, (cells_one (one_int _ _)), rfl⟩⟩⟩⟩) <| ov [500] (op_lit (xs := [.tmp 56]) (ys := [(S_api_Holding.mk a_1.f_origin a_1.f_name a_2 a_3)]) _ rfl Tryd.underlying29 Tryd.sizeOf120 Tryd.zeroValue120 rfl rfl (by decide) (by decide) ⟨⟨_, q0, (cells_agg _)⟩, trivial⟩ S_api_Holding.lens) <| og [509, 508, 500] [9] [.slot 58 10 100000 (fun v1_ _ => (eqVP v1_)), .res 10 100000 (fun v1_ _ => (acc (v1_) 120 4 S_api_Holding.ck r33))] (GOk.plain (op_callv Tryd.call78 (slices_Insert_api_Holding_ok hr33) ⟨q0, q1, q2, trivial⟩) rfl) <| og [501] [5] [.slot 9 10 100000 (fun v1_ _ => (eqVP v1_))] (fun {β} => (GOk.drop _ (GOk.plain (op_assign (V := (eqVP (β 10))) q0) rfl))) .nil) fun b34 a w h => ?_
              exact ⟨r33, (b34 10), hF, h.sub [0, 1, 2, 3, 4, 5] (by rfl)⟩
          · refine wp_skip ?_
            replace h := h.ownacc 5 rfl
            change SatL c [.slot 4 (lpVP (b1 0) 0), .slot 8 (lpVP (b1 3) 0), .slot 9 (eqVP (b6 2)), .res (lb (b1 0) 31 [one (slVP S_api_Token.ck a_0.f_Tokens), one (slVP S_api_Holding.ck a_0.f_Holdings)]), .res (lb (b1 3) 31 [one (slVP S_api_Token.ck ((S_api_Purse.mk [] []).f_Tokens)), one (slVP S_api_Holding.ck ((S_api_Purse.mk [] []).f_Holdings))]), .res (acc (b6 2) 120 4 S_api_Holding.ck r5)] a w at h
            exact ⟨r5, (b6 2), hF, h.sub [0, 1, 2, 3, 4, 5] (by rfl)⟩
      · clear h hF
        rintro a w ⟨x26, q27, hF, h⟩
        unfold purse_put.j2 at hF
        show Code.wp Tryd.prog _ _ a w
        refine regS mixed hn hG h [0, 1, 500, 4] (ov [2] (op_move q0) <| ov [0] (op_fieldAddr_lbm (p := (b1 0)) (n := 1) 0 1 Tryd.underlying31 rfl Tryd.sizeOf29 (by decide) q0 rfl) <| ou [500, 501, 5] 3 (op_store_lb [one (slVP S_api_Token.ck a_0.f_Tokens)] [one (slVP S_api_Holding.ck a_0.f_Holdings)] [] [one (slVP S_api_Holding.ck x26)] Tryd.sizeOf29 q0 (opacc 1 2 rfl rfl) (cells_one (one_sl _ _)) rfl rfl rfl) .nil) fun _ a w h => ?_
        refine regS mixed hn hG h [1, 500] (ov [0, 2] (op_load_w 1 Tryd.isAgg31 Tryd.sizeOf31 q0) <| ou [1, 500] 3 (op_store_w Tryd.sizeOf31 q0 q1 (cells_agg _)) .nil) fun _ a w h => ?_
        refine wp_ret ?_
        obtain rfl := Option.some.inj hF
        exact ⟨.inl rfl, ret1 h Tryd.results56 (r_cell 0 1 rfl rfl Tryd.isAgg31 Tryd.sizeOf31 rfl) [] [] rfl rfl rfl⟩

def purse_Grant (a_0 : S_api_Purse) (a_1 : Int) (a_2 : List UInt8) (a_3 : List UInt8) (a_4 : Int) : Option (S_api_Purse × Int) := ((purse_token a_0 (S_purse_key.mk a_1 a_2)).bind fun r4 => (if (decide (r4 < (0 : Int))) = true then some (a_0, 40) else ((name_Right a_3).bind fun r6 => (if (!r6) = true then some (a_0, 7) else ((purse_Held a_0 a_1 a_2 a_3).bind fun r8 => ((amount_Add r8 a_4).bind fun r9 => (if (!decide (r9.2 = (0 : Int))) = true then some (a_0, r9.2) else ((purse_put a_0 (S_purse_key.mk a_1 a_2) a_3 r9.1).bind fun r11 => some (r11, 0)))))))))
theorem purse_Grant_ok {a_0 : S_api_Purse} {a_1 : Int} {a_2 : List UInt8} {a_3 : List UInt8} {a_4 : Int} {r : S_api_Purse × Int} (hF : purse_Grant a_0 a_1 a_2 a_3 a_4 = some r) : CallOk Tryd.prog KG 25 [(aggVP [one (slVP S_api_Token.ck a_0.f_Tokens), one (slVP S_api_Holding.ck a_0.f_Holdings)]), (intVP .u32 a_1), (strVP a_2), (strVP a_3), (intVP .u64 a_4)] [] (fun _ => []) (tupVP [(aggVP [one (slVP S_api_Token.ck r.1.f_Tokens), one (slVP S_api_Holding.ck r.1.f_Holdings)]), (intVP .i64 r.2)]) := by
  refine CallOk.intro 48 Tryd.func25 rfl Tryd.ntmps25 (Nat.le_of_ble_eq_true rfl) ?_
  intro c a w hG hn h
  unfold purse_Grant at hF
  change SatL c [.slot 0 (aggVP [one (slVP S_api_Token.ck a_0.f_Tokens), one (slVP S_api_Holding.ck a_0.f_Holdings)]), .slot 1 (intVP .u32 a_1), .slot 2 (strVP a_2), .slot 3 (strVP a_3), .slot 4 (intVP .u64 a_4)] a w at h
  refine regS mixed hn hG h [1, 2, 3, 4, 504, 502, 503, 501] (ob [0] (op_box q0 (cells_agg _)) <| ob [] (op_alloc Tryd.zeroValue31 z31) <| ov [] (op_assign qi) .nil) fun b1 a w h => ?_
  refine regS mixed hn hG h [0, 1, 2, 3, 4, 5, 502, 6, 7, 500] (ov [0] (op_move q0) <| ov [1] (op_move q0) <| ov [501, 500] (op_build [(0, .tmp 15), (1, .tmp 16)] rfl bu104 z104 ⟨[], [one (intVP .u32 (0 : Int))], [one (strVP [])], [one (intVP .u32 a_1)], _, rfl, rfl, rfl, q0, (cells_one (one_int _ _)), ⟨[one (intVP .u32 a_1)], [one (strVP [])], [], [one (strVP a_2)], _, rfl, rfl, rfl, q1, (cells_one (one_str _)), rfl⟩⟩) <| ob [] (op_alloc Tryd.zeroValue104 z104) <| og [501, 502] [500] [.res 3 100000 (fun v1_ _ => (lb (v1_) 104 [one (intVP .u32 a_1), one (strVP a_2)]))] (GOk.plain (op_store_w Tryd.sizeOf104 q0 q1 (cells_agg _)) rfl) .nil) fun b3 a w h => ?_
  refine wp_seq ?_
  refine wp_block ?_
  obtain ⟨r4, hr4, hF⟩ := bind_some hF
  refine regS mixed hn hG h [0, 1, 2, 3, 4, 5, 6, 500, 7, 8, 9] (ov [4, 7] (op_load_w 1 Tryd.isAgg31 Tryd.sizeOf31 q0) <| ov [6, 9] (op_load_w 1 Tryd.isAgg104 Tryd.sizeOf104 q0) <| oc [501, 500] [] Tryd.call47 (purse_token_ok hr4) ⟨q0, q1, trivial⟩ <| ov [500] (op_bin bin_lss q0 qi) <| ov [500] (op_assign q0) .nil) fun _ a w h => ?_
  refine cnd h hF 7 [4, 5, 8, 9] [0, 1, 2, 3, 4, 5, 6, 8, 9, 10] (fun hb5 hF h => ?_) (fun hb5 hF h => ?_)
  · refine regS mixed hn hG h [1, 500, 501] (ov [0, 2] (op_load_w 1 Tryd.isAgg31 Tryd.sizeOf31 q0) <| ou [1, 500] 3 (op_store_w Tryd.sizeOf31 q0 q1 (cells_agg _)) <| ov [] (op_assign qi) .nil) fun _ a w h => ?_
    refine wp_ret ?_
    obtain rfl := Option.some.inj hF
    exact ⟨.inl rfl, retn h (rs := [.cell 10 31, .tmp 11]) (Vs := [(aggVP [one (slVP S_api_Token.ck a_0.f_Tokens), one (slVP S_api_Holding.ck a_0.f_Holdings)]), (intVP .i64 40)]) Tryd.results25 (by decide) ⟨(r_cell 0 2 rfl rfl Tryd.isAgg31 Tryd.sizeOf31 rfl), (r_tmp 1 rfl), trivial⟩ [] [] rfl rfl rfl⟩
  · obtain ⟨r6, hr6, hF⟩ := bind_some hF
    refine regS mixed hn hG h [0, 1, 2, 3, 4, 5, 6, 500, 7, 8, 9] (ov [2] (op_move q0) <| oc [500] [] Tryd.call46 (name_Right_ok hr6) ⟨q0, trivial⟩ <| ov [500] (op_un (un_not _) q0) <| ov [500] (op_assign q0) .nil) fun _ a w h => ?_
    refine cnd h hF 7 [4, 5, 8, 9] [0, 1, 2, 3, 4, 5, 6, 8, 9, 10] (fun hb7 hF h => ?_) (fun hb7 hF h => ?_)
    · refine regS mixed hn hG h [1, 500, 501] (ov [0, 2] (op_load_w 1 Tryd.isAgg31 Tryd.sizeOf31 q0) <| ou [1, 500] 3 (op_store_w Tryd.sizeOf31 q0 q1 (cells_agg _)) <| ov [] (op_assign qi) .nil) fun _ a w h => ?_
      refine wp_ret ?_
      obtain rfl := Option.some.inj hF
      exact ⟨.inl rfl, retn h (rs := [.cell 10 31, .tmp 11]) (Vs := [(aggVP [one (slVP S_api_Token.ck a_0.f_Tokens), one (slVP S_api_Holding.ck a_0.f_Holdings)]), (intVP .i64 7)]) Tryd.results25 (by decide) ⟨(r_cell 0 2 rfl rfl Tryd.isAgg31 Tryd.sizeOf31 rfl), (r_tmp 1 rfl), trivial⟩ [] [] rfl rfl rfl⟩
    · refine wp_skip ?_
      show Code.wp Tryd.prog _ _ a w
      obtain ⟨r8, hr8, hF⟩ := bind_some hF
      obtain ⟨r9, hr9, hF⟩ := bind_some hF
      refine regS mixed hn hG h [2, 4, 5, 6, 501, 500, 7, 8, 9] (ov [4, 7] (op_load_w 1 Tryd.isAgg31 Tryd.sizeOf31 q0) <| ov [0] (op_move q0) <| ov [1] (op_move q0) <| ov [2] (op_move q0) <| oc [503, 502, 501, 500] [] Tryd.call55 (purse_Held_ok hr8) ⟨q0, q1, q2, q3, trivial⟩ <| ov [3] (op_move q0) <| oc [501, 500] [] Tryd.call54 (amount_Add_ok hr9) ⟨q0, q1, trivial⟩ <| ov [500] (op_move q0) <| ov [500] (op_extract q0 rfl) <| ov [501] (op_extract q0 rfl) <| ov [501] (op_assign q0) <| ov [501] (op_assign q0) .nil) fun _ a w h => ?_
      refine wp_seq ?_
      refine regS mixed hn hG h [0, 1, 2, 3, 4, 5, 500, 6, 7, 8] (ov [5] (op_move q0) <| ov [500] (op_bin bin_neq q0 qi) .nil) fun _ a w h => ?_
      refine cnd h hF 6 [1, 2, 5, 7, 8] [0, 1, 2, 3, 4, 7, 8, 9] (fun hb10 hF h => ?_) (fun hb10 hF h => ?_)
      · refine regS mixed hn hG h [1, 500, 501] (ov [0, 3] (op_load_w 1 Tryd.isAgg31 Tryd.sizeOf31 q0) <| ov [2] (op_move q0) <| ou [1, 501] 4 (op_store_w Tryd.sizeOf31 q0 q1 (cells_agg _)) <| ov [501] (op_assign q0) .nil) fun _ a w h => ?_
        refine wp_ret ?_
        obtain rfl := Option.some.inj hF
        exact ⟨.inl rfl, retn h (rs := [.cell 10 31, .tmp 11]) (Vs := [(aggVP [one (slVP S_api_Token.ck a_0.f_Tokens), one (slVP S_api_Holding.ck a_0.f_Holdings)]), (intVP .i64 r9.2)]) Tryd.results25 (by decide) ⟨(r_cell 0 2 rfl rfl Tryd.isAgg31 Tryd.sizeOf31 rfl), (r_tmp 1 rfl), trivial⟩ [] [] rfl rfl rfl⟩
      · refine wp_skip ?_
        show Code.wp Tryd.prog _ _ a w
        obtain ⟨r11, hr11, hF⟩ := bind_some hF
        refine regS mixed hn hG h [2, 500, 501] (ov [1, 5] (op_load_w 1 Tryd.isAgg31 Tryd.sizeOf31 q0) <| ov [3, 7] (op_load_w 1 Tryd.isAgg104 Tryd.sizeOf104 q0) <| ov [0] (op_move q0) <| ov [4] (op_move q0) <| oc [503, 502, 501, 500] [] Tryd.call56 (purse_put_ok hr11) ⟨q0, q1, q2, q3, trivial⟩ <| ou [2, 500] 6 (op_store_w Tryd.sizeOf31 q0 q1 (cells_agg _)) <| ov [] (op_assign qi) .nil) fun _ a w h => ?_
        refine wp_ret ?_
        obtain rfl := Option.some.inj hF
        exact ⟨.inl rfl, retn h (rs := [.cell 10 31, .tmp 11]) (Vs := [(aggVP [one (slVP S_api_Token.ck r11.f_Tokens), one (slVP S_api_Holding.ck r11.f_Holdings)]), (intVP .i64 0)]) Tryd.results25 (by decide) ⟨(r_cell 0 2 rfl rfl Tryd.isAgg31 Tryd.sizeOf31 rfl), (r_tmp 1 rfl), trivial⟩ [] [] rfl rfl rfl⟩

def law28_awake.j1 (x7 : Bool) : Option Bool := some x7
def law28_awake : Option Bool := ((audit_Backed (S_api_Chain.mk (0 : Int) (S_api_Ledger.mk (0 : Int) (0 : Int) (0 : Int) [] []) (S_api_Purse.mk [] []) (S_api_Home.mk (0 : Int) (List.replicate 32 0) (S_api_Tree.mk (0 : Int) (List.replicate 32 (List.replicate 32 0))) [] [] (List.replicate 32 0) [] (0 : Int) false) (S_api_Replica.mk (0 : Int) (0 : Int) (List.replicate 32 0) [] (0 : Int) (List.replicate 32 0) [] [] false false) []) (S_api_Chain.mk (0 : Int) (S_api_Ledger.mk (0 : Int) (0 : Int) (0 : Int) [] []) (S_api_Purse.mk [] []) (S_api_Home.mk (0 : Int) (List.replicate 32 0) (S_api_Tree.mk (0 : Int) (List.replicate 32 (List.replicate 32 0))) [] [] (List.replicate 32 0) [] (0 : Int) false) (S_api_Replica.mk (0 : Int) (0 : Int) (List.replicate 32 0) [] (0 : Int) (List.replicate 32 0) [] [] false false) []) [97]).bind fun r1 => ((purse_Enlist (S_api_Purse.mk [] []) 1 [97] 0).bind fun r2 => ((purse_Grant r2.1 1 [97] [98] 7).bind fun r4 => (if (decide (r1.1 = (0 : Int))) = true then (if (decide (r1.2.1 = (0 : Int))) = true then (if r1.2.2 = true then ((audit_Whole (S_api_Chain.mk 1 (S_api_Ledger.mk (0 : Int) (0 : Int) (0 : Int) [] []) r4.1 (S_api_Home.mk (0 : Int) (List.replicate 32 0) (S_api_Tree.mk (0 : Int) (List.replicate 32 (List.replicate 32 0))) [] [] (List.replicate 32 0) [] (0 : Int) false) (S_api_Replica.mk (0 : Int) (0 : Int) (List.replicate 32 0) [] (0 : Int) (List.replicate 32 0) [] [] false false) []) [97]).bind fun r5 => (if ((decide (r5.f_High = (0 : Int))) && ((decide (r5.f_Low = (7 : Int))) && true)) = true then ((audit_Stands (S_api_Chain.mk 1 (S_api_Ledger.mk (0 : Int) (0 : Int) (0 : Int) [] []) r4.1 (S_api_Home.mk (0 : Int) (List.replicate 32 0) (S_api_Tree.mk (0 : Int) (List.replicate 32 (List.replicate 32 0))) [] [] (List.replicate 32 0) [] (0 : Int) false) (S_api_Replica.mk (0 : Int) (0 : Int) (List.replicate 32 0) [] (0 : Int) (List.replicate 32 0) [] [] false false) []) 1 [97]).bind fun r6 => law28_awake.j1 (!r6)) else law28_awake.j1 false)) else law28_awake.j1 false) else law28_awake.j1 false) else law28_awake.j1 false))))
theorem law28_awake_ok {r : Bool} (hF : law28_awake = some r) : CallOk Tryd.prog KG 5 [] [] (fun _ => []) (boolVP r) := by
  refine CallOk.intro 45 Tryd.func5 rfl Tryd.ntmps5 (Nat.le_of_ble_eq_true rfl) ?_
  intro c a w hG hn h
  unfold law28_awake at hF
  change SatL c [] a w at h
  refine regS mixed hn hG h [] (ov [] (op_assign qb) .nil) fun _ a w h => ?_
  obtain ⟨r1, hr1, hF⟩ := bind_some hF
  refine regS mixed hn hG h [502, 501, 500] (ov [] (op_build [] rfl bu46 z46 rfl) <| ov [] (op_build [] rfl bu46 z46 rfl) <| oc [501, 500] [] Tryd.call7 (audit_Backed_ok hr1) ⟨q0, q1, (opc (sc _ (by decide))), trivial⟩ <| ov [500] (op_move q0) <| ov [500] (op_extract q0 rfl) <| ov [501] (op_extract q0 rfl) <| ov [502] (op_extract q0 rfl) <| ov [502] (op_assign q0) <| ov [502] (op_assign q0) <| ov [502] (op_assign q0) .nil) fun _ a w h => ?_
  obtain ⟨r2, hr2, hF⟩ := bind_some hF
  refine regS mixed hn hG h [0, 1, 2, 503, 501] (ov [] (op_build [] rfl bu31 z31 rfl) <| oc [500] [] Tryd.call24 (purse_Enlist_ok hr2) ⟨q0, qi, (opc (sc _ (by decide))), qi, trivial⟩ <| ov [500] (op_move q0) <| ov [500] (op_extract q0 rfl) <| ov [501] (op_extract q0 rfl) <| ob [] (op_alloc Tryd.zeroValue31 z31) <| og [501, 503] [500] [.res 5 100000 (fun v1_ _ => (lb (v1_) 31 [one (slVP S_api_Token.ck r2.1.f_Tokens), one (slVP S_api_Holding.ck r2.1.f_Holdings)]))] (GOk.plain (op_store_w Tryd.sizeOf31 q0 q1 (cells_agg _)) rfl) <| ov [503] (op_assign q0) .nil) fun b3 a w h => ?_
  obtain ⟨r4, hr4, hF⟩ := bind_some hF
  refine regS mixed hn hG h [0, 1, 2, 3, 500] (ov [3, 4] (op_load_w 1 Tryd.isAgg31 Tryd.sizeOf31 q0) <| oc [500] [] Tryd.call25 (purse_Grant_ok hr4) ⟨q0, qi, (opc (sc _ (by decide))), (opc (sc _ (by decide))), qi, trivial⟩ <| ov [500] (op_move q0) <| ov [500] (op_extract q0 rfl) <| ov [501] (op_extract q0 rfl) <| ou [3, 501] 4 (op_store_w Tryd.sizeOf31 q0 q1 (cells_agg _)) .nil) fun _ a w h => ?_
  refine wp_seq ?_
  refine wp_cut (fun a w => ∃ (x7 : Bool), law28_awake.j1 x7 = some r ∧ SatL c [.slot 0 (boolVP x7)] a w) ?_ ?_
  · rcases Bool.eq_false_or_eq_true (decide (r1.1 = (0 : Int))) with hb8 | hb8
    · replace hF := tt_of hb8 hF
      rcases Bool.eq_false_or_eq_true (decide (r1.2.1 = (0 : Int))) with hb9 | hb9
      · replace hF := tt_of hb9 hF
        rcases Bool.eq_false_or_eq_true r1.2.2 with hb10 | hb10
        · replace hF := tt_of hb10 hF
          obtain ⟨r5, hr5, hF⟩ := bind_some hF
          rcases Bool.eq_false_or_eq_true ((decide (r5.f_High = (0 : Int))) && ((decide (r5.f_Low = (7 : Int))) && true)) with hb11 | hb11
          · replace hF := tt_of hb11 hF
            obtain ⟨r6, hr6, hF⟩ := bind_some hF
            refine reg mixed hn hG h [500] (ov [0] (op_move q0) <| ov [500] (op_bin bin_eql q0 qi) <| ov [500] (op_move q0) <| oe [500, 1] [] (GOk.on_eq hb8 rfl rfl rfl (op_move q0)) <| oe [501, 500] [] (GOk.on_eq hb8 rfl rfl rfl (op_bin bin_eql q0 qi)) <| ov [502, 500] (op_pick_t hb8 q0 q1) <| ov [500] (op_move q0) <| oe [500, 2] [] (GOk.on_eq hb9 rfl rfl rfl (op_move q0)) <| ov [501, 500] (op_pick_t hb9 q0 q1) <| ov [500] (op_move q0) <| oe [500, 3, 4] [] (GOk.on_eq hb10 rfl rfl rfl (op_load_w 1 Tryd.isAgg31 Tryd.sizeOf31 q0)) <| oe [501, 500] [] (GOk.on_eq hb10 rfl rfl rfl (op_build [(0, .const (.int .u32 1)), (2, .tmp 33)] rfl bu46 z46 ⟨[], [one (intVP .u32 (0 : Int))], [one (intVP .u64 ((S_api_Ledger.mk (0 : Int) (0 : Int) (0 : Int) [] []).f_Height)), one (intVP .u64 ((S_api_Ledger.mk (0 : Int) (0 : Int) (0 : Int) [] []).f_Time)), one (intVP .u64 ((S_api_Ledger.mk (0 : Int) (0 : Int) (0 : Int) [] []).f_Gas)), one (slVP S_api_Account.ck ((S_api_Ledger.mk (0 : Int) (0 : Int) (0 : Int) [] []).f_Accounts)), one (slVP S_api_Event.ck ((S_api_Ledger.mk (0 : Int) (0 : Int) (0 : Int) [] []).f_Events)), one (slVP S_api_Token.ck ((S_api_Purse.mk [] []).f_Tokens)), one (slVP S_api_Holding.ck ((S_api_Purse.mk [] []).f_Holdings)), one (intVP .u32 ((S_api_Home.mk (0 : Int) (List.replicate 32 0) (S_api_Tree.mk (0 : Int) (List.replicate 32 (List.replicate 32 0))) [] [] (List.replicate 32 0) [] (0 : Int) false).f_Chain)), bytesCk 32 ((S_api_Home.mk (0 : Int) (List.replicate 32 0) (S_api_Tree.mk (0 : Int) (List.replicate 32 (List.replicate 32 0))) [] [] (List.replicate 32 0) [] (0 : Int) false).f_Updater), one (intVP .u32 (((S_api_Home.mk (0 : Int) (List.replicate 32 0) (S_api_Tree.mk (0 : Int) (List.replicate 32 (List.replicate 32 0))) [] [] (List.replicate 32 0) [] (0 : Int) false).f_Tree).f_Count)), arrCk 32 32 (dC 32) (lens_dC 32) (((S_api_Home.mk (0 : Int) (List.replicate 32 0) (S_api_Tree.mk (0 : Int) (List.replicate 32 (List.replicate 32 0))) [] [] (List.replicate 32 0) [] (0 : Int) false).f_Tree).f_Branches), one (slVP (dC 32) ((S_api_Home.mk (0 : Int) (List.replicate 32 0) (S_api_Tree.mk (0 : Int) (List.replicate 32 (List.replicate 32 0))) [] [] (List.replicate 32 0) [] (0 : Int) false).f_Leaves)), one (slVP (dC 32) ((S_api_Home.mk (0 : Int) (List.replicate 32 0) (S_api_Tree.mk (0 : Int) (List.replicate 32 (List.replicate 32 0))) [] [] (List.replicate 32 0) [] (0 : Int) false).f_Queue)), bytesCk 32 ((S_api_Home.mk (0 : Int) (List.replicate 32 0) (S_api_Tree.mk (0 : Int) (List.replicate 32 (List.replicate 32 0))) [] [] (List.replicate 32 0) [] (0 : Int) false).f_Committed), one (slVP S_api_Nonce.ck ((S_api_Home.mk (0 : Int) (List.replicate 32 0) (S_api_Tree.mk (0 : Int) (List.replicate 32 (List.replicate 32 0))) [] [] (List.replicate 32 0) [] (0 : Int) false).f_Nonces)), one (intVP .u64 ((S_api_Home.mk (0 : Int) (List.replicate 32 0) (S_api_Tree.mk (0 : Int) (List.replicate 32 (List.replicate 32 0))) [] [] (List.replicate 32 0) [] (0 : Int) false).f_Bond)), one (boolVP ((S_api_Home.mk (0 : Int) (List.replicate 32 0) (S_api_Tree.mk (0 : Int) (List.replicate 32 (List.replicate 32 0))) [] [] (List.replicate 32 0) [] (0 : Int) false).f_Failed)), one (intVP .u32 ((S_api_Replica.mk (0 : Int) (0 : Int) (List.replicate 32 0) [] (0 : Int) (List.replicate 32 0) [] [] false false).f_Chain)), one (intVP .u32 ((S_api_Replica.mk (0 : Int) (0 : Int) (List.replicate 32 0) [] (0 : Int) (List.replicate 32 0) [] [] false false).f_Here)), bytesCk 32 ((S_api_Replica.mk (0 : Int) (0 : Int) (List.replicate 32 0) [] (0 : Int) (List.replicate 32 0) [] [] false false).f_Updater), one (slVP (dC 32) ((S_api_Replica.mk (0 : Int) (0 : Int) (List.replicate 32 0) [] (0 : Int) (List.replicate 32 0) [] [] false false).f_Watchers)), one (intVP .u64 ((S_api_Replica.mk (0 : Int) (0 : Int) (List.replicate 32 0) [] (0 : Int) (List.replicate 32 0) [] [] false false).f_Window)), bytesCk 32 ((S_api_Replica.mk (0 : Int) (0 : Int) (List.replicate 32 0) [] (0 : Int) (List.replicate 32 0) [] [] false false).f_Committed), one (slVP S_api_Timed.ck ((S_api_Replica.mk (0 : Int) (0 : Int) (List.replicate 32 0) [] (0 : Int) (List.replicate 32 0) [] [] false false).f_Roots)), one (slVP S_api_State.ck ((S_api_Replica.mk (0 : Int) (0 : Int) (List.replicate 32 0) [] (0 : Int) (List.replicate 32 0) [] [] false false).f_States)), one (boolVP ((S_api_Replica.mk (0 : Int) (0 : Int) (List.replicate 32 0) [] (0 : Int) (List.replicate 32 0) [] [] false false).f_Failed)), one (boolVP ((S_api_Replica.mk (0 : Int) (0 : Int) (List.replicate 32 0) [] (0 : Int) (List.replicate 32 0) [] [] false false).f_Cut)), one (strVP [])], [one (intVP .u32 1)], _, rfl, rfl, rfl, qi, (cells_one (one_int _ _)), ⟨[one (intVP .u32 1), one (intVP .u64 ((S_api_Ledger.mk (0 : Int) (0 : Int) (0 : Int) [] []).f_Height)), one (intVP .u64 ((S_api_Ledger.mk (0 : Int) (0 : Int) (0 : Int) [] []).f_Time)), one (intVP .u64 ((S_api_Ledger.mk (0 : Int) (0 : Int) (0 : Int) [] []).f_Gas)), one (slVP S_api_Account.ck ((S_api_Ledger.mk (0 : Int) (0 : Int) (0 : Int) [] []).f_Accounts)), one (slVP S_api_Event.ck ((S_api_Ledger.mk (0 : Int) (0 : Int) (0 : Int) [] []).f_Events))], [one (slVP S_api_Token.ck ((S_api_Purse.mk [] []).f_Tokens)), one (slVP S_api_Holding.ck ((S_api_Purse.mk [] []).f_Holdings))], [one (intVP .u32 ((S_api_Home.mk (0 : Int) (List.replicate 32 0) (S_api_Tree.mk (0 : Int) (List.replicate 32 (List.replicate 32 0))) [] [] (List.replicate 32 0) [] (0 : Int) false).f_Chain)), bytesCk 32 ((S_api_Home.mk (0 : Int) (List.replicate 32 0) (S_api_Tree.mk (0 : Int) (List.replicate 32 (List.replicate 32 0))) [] [] (List.replicate 32 0) [] (0 : Int) false).f_Updater), one (intVP .u32 (((S_api_Home.mk (0 : Int) (List.replicate 32 0) (S_api_Tree.mk (0 : Int) (List.replicate 32 (List.replicate 32 0))) [] [] (List.replicate 32 0) [] (0 : Int) false).f_Tree).f_Count)), arrCk 32 32 (dC 32) (lens_dC 32) (((S_api_Home.mk (0 : Int) (List.replicate 32 0) (S_api_Tree.mk (0 : Int) (List.replicate 32 (List.replicate 32 0))) [] [] (List.replicate 32 0) [] (0 : Int) false).f_Tree).f_Branches), one (slVP (dC 32) ((S_api_Home.mk (0 : Int) (List.replicate 32 0) (S_api_Tree.mk (0 : Int) (List.replicate 32 (List.replicate 32 0))) [] [] (List.replicate 32 0) [] (0 : Int) false).f_Leaves)), one (slVP (dC 32) ((S_api_Home.mk (0 : Int) (List.replicate 32 0) (S_api_Tree.mk (0 : Int) (List.replicate 32 (List.replicate 32 0))) [] [] (List.replicate 32 0) [] (0 : Int) false).f_Queue)), bytesCk 32 ((S_api_Home.mk (0 : Int) (List.replicate 32 0) (S_api_Tree.mk (0 : Int) (List.replicate 32 (List.replicate 32 0))) [] [] (List.replicate 32 0) [] (0 : Int) false).f_Committed), one (slVP S_api_Nonce.ck ((S_api_Home.mk (0 : Int) (List.replicate 32 0) (S_api_Tree.mk (0 : Int) (List.replicate 32 (List.replicate 32 0))) [] [] (List.replicate 32 0) [] (0 : Int) false).f_Nonces)), one (intVP .u64 ((S_api_Home.mk (0 : Int) (List.replicate 32 0) (S_api_Tree.mk (0 : Int) (List.replicate 32 (List.replicate 32 0))) [] [] (List.replicate 32 0) [] (0 : Int) false).f_Bond)), one (boolVP ((S_api_Home.mk (0 : Int) (List.replicate 32 0) (S_api_Tree.mk (0 : Int) (List.replicate 32 (List.replicate 32 0))) [] [] (List.replicate 32 0) [] (0 : Int) false).f_Failed)), one (intVP .u32 ((S_api_Replica.mk (0 : Int) (0 : Int) (List.replicate 32 0) [] (0 : Int) (List.replicate 32 0) [] [] false false).f_Chain)), one (intVP .u32 ((S_api_Replica.mk (0 : Int) (0 : Int) (List.replicate 32 0) [] (0 : Int) (List.replicate 32 0) [] [] false false).f_Here)), bytesCk 32 ((S_api_Replica.mk (0 : Int) (0 : Int) (List.replicate 32 0) [] (0 : Int) (List.replicate 32 0) [] [] false false).f_Updater), one (slVP (dC 32) ((S_api_Replica.mk (0 : Int) (0 : Int) (List.replicate 32 0) [] (0 : Int) (List.replicate 32 0) [] [] false false).f_Watchers)), one (intVP .u64 ((S_api_Replica.mk (0 : Int) (0 : Int) (List.replicate 32 0) [] (0 : Int) (List.replicate 32 0) [] [] false false).f_Window)), bytesCk 32 ((S_api_Replica.mk (0 : Int) (0 : Int) (List.replicate 32 0) [] (0 : Int) (List.replicate 32 0) [] [] false false).f_Committed), one (slVP S_api_Timed.ck ((S_api_Replica.mk (0 : Int) (0 : Int) (List.replicate 32 0) [] (0 : Int) (List.replicate 32 0) [] [] false false).f_Roots)), one (slVP S_api_State.ck ((S_api_Replica.mk (0 : Int) (0 : Int) (List.replicate 32 0) [] (0 : Int) (List.replicate 32 0) [] [] false false).f_States)), one (boolVP ((S_api_Replica.mk (0 : Int) (0 : Int) (List.replicate 32 0) [] (0 : Int) (List.replicate 32 0) [] [] false false).f_Failed)), one (boolVP ((S_api_Replica.mk (0 : Int) (0 : Int) (List.replicate 32 0) [] (0 : Int) (List.replicate 32 0) [] [] false false).f_Cut)), one (strVP [])], [one (slVP S_api_Token.ck r4.1.f_Tokens), one (slVP S_api_Holding.ck r4.1.f_Holdings)], _, rfl, rfl, rfl, q0, (cells_agg _), rfl⟩⟩)) <| oe [502, 500] [] (GOk.on_eq hb10 rfl rfl rfl (op_call Tryd.call10 (audit_Whole_ok hr5) ⟨q0, (opc (sc _ (by decide))), trivial⟩)) <| oe [503] [] (GOk.on_eq hb10 rfl rfl rfl (op_build [(1, .const (.int .u64 7))] rfl bu55 z55 ⟨[one (intVP .u64 (0 : Int))], [one (intVP .u64 (0 : Int))], [], [one (intVP .u64 7)], _, rfl, rfl, rfl, qi, (cells_one (one_int _ _)), rfl⟩)) <| oe [504, 501, 500] [] (GOk.on_eq hb10 rfl rfl rfl (op_bin (bin_steql (d := 1) Tryd.underlying55 (by kernel_rfl) Tryd.eqGuardType55 (.cons (L := [one (intVP .u64 r5.f_High)]) (M := [one (intVP .u64 (0 : Int))]) (by decide) rfl (eqc_int Tryd.underlying23 Tryd.isAgg23) rfl rfl (.cons (L := [one (intVP .u64 r5.f_Low)]) (M := [one (intVP .u64 7)]) (by decide) rfl (eqc_int Tryd.underlying23 Tryd.isAgg23) rfl rfl .nil))) q0 q1)) <| ov [505, 500] (op_pick_t hb10 q0 q1) <| ov [500] (op_move q0) <| oe [500, 3, 4] [] (GOk.on_eq hb11 rfl rfl rfl (op_load_w 1 Tryd.isAgg31 Tryd.sizeOf31 q0)) <| oe [501, 500] [] (GOk.on_eq hb11 rfl rfl rfl (op_build [(0, .const (.int .u32 1)), (2, .tmp 40)] rfl bu46 z46 ⟨[], [one (intVP .u32 (0 : Int))], [one (intVP .u64 ((S_api_Ledger.mk (0 : Int) (0 : Int) (0 : Int) [] []).f_Height)), one (intVP .u64 ((S_api_Ledger.mk (0 : Int) (0 : Int) (0 : Int) [] []).f_Time)), one (intVP .u64 ((S_api_Ledger.mk (0 : Int) (0 : Int) (0 : Int) [] []).f_Gas)), one (slVP S_api_Account.ck ((S_api_Ledger.mk (0 : Int) (0 : Int) (0 : Int) [] []).f_Accounts)), one (slVP S_api_Event.ck ((S_api_Ledger.mk (0 : Int) (0 : Int) (0 : Int) [] []).f_Events)), one (slVP S_api_Token.ck ((S_api_Purse.mk [] []).f_Tokens)), one (slVP S_api_Holding.ck ((S_api_Purse.mk [] []).f_Holdings)), one (intVP .u32 ((S_api_Home.mk (0 : Int) (List.replicate 32 0) (S_api_Tree.mk (0 : Int) (List.replicate 32 (List.replicate 32 0))) [] [] (List.replicate 32 0) [] (0 : Int) false).f_Chain)), bytesCk 32 ((S_api_Home.mk (0 : Int) (List.replicate 32 0) (S_api_Tree.mk (0 : Int) (List.replicate 32 (List.replicate 32 0))) [] [] (List.replicate 32 0) [] (0 : Int) false).f_Updater), one (intVP .u32 (((S_api_Home.mk (0 : Int) (List.replicate 32 0) (S_api_Tree.mk (0 : Int) (List.replicate 32 (List.replicate 32 0))) [] [] (List.replicate 32 0) [] (0 : Int) false).f_Tree).f_Count)), arrCk 32 32 (dC 32) (lens_dC 32) (((S_api_Home.mk (0 : Int) (List.replicate 32 0) (S_api_Tree.mk (0 : Int) (List.replicate 32 (List.replicate 32 0))) [] [] (List.replicate 32 0) [] (0 : Int) false).f_Tree).f_Branches), one (slVP (dC 32) ((S_api_Home.mk (0 : Int) (List.replicate 32 0) (S_api_Tree.mk (0 : Int) (List.replicate 32 (List.replicate 32 0))) [] [] (List.replicate 32 0) [] (0 : Int) false).f_Leaves)), one (slVP (dC 32) ((S_api_Home.mk (0 : Int) (List.replicate 32 0) (S_api_Tree.mk (0 : Int) (List.replicate 32 (List.replicate 32 0))) [] [] (List.replicate 32 0) [] (0 : Int) false).f_Queue)), bytesCk 32 ((S_api_Home.mk (0 : Int) (List.replicate 32 0) (S_api_Tree.mk (0 : Int) (List.replicate 32 (List.replicate 32 0))) [] [] (List.replicate 32 0) [] (0 : Int) false).f_Committed), one (slVP S_api_Nonce.ck ((S_api_Home.mk (0 : Int) (List.replicate 32 0) (S_api_Tree.mk (0 : Int) (List.replicate 32 (List.replicate 32 0))) [] [] (List.replicate 32 0) [] (0 : Int) false).f_Nonces)), one (intVP .u64 ((S_api_Home.mk (0 : Int) (List.replicate 32 0) (S_api_Tree.mk (0 : Int) (List.replicate 32 (List.replicate 32 0))) [] [] (List.replicate 32 0) [] (0 : Int) false).f_Bond)), one (boolVP ((S_api_Home.mk (0 : Int) (List.replicate 32 0) (S_api_Tree.mk (0 : Int) (List.replicate 32 (List.replicate 32 0))) [] [] (List.replicate 32 0) [] (0 : Int) false).f_Failed)), one (intVP .u32 ((S_api_Replica.mk (0 : Int) (0 : Int) (List.replicate 32 0) [] (0 : Int) (List.replicate 32 0) [] [] false false).f_Chain)), one (intVP .u32 ((S_api_Replica.mk (0 : Int) (0 : Int) (List.replicate 32 0) [] (0 : Int) (List.replicate 32 0) [] [] false false).f_Here)), bytesCk 32 ((S_api_Replica.mk (0 : Int) (0 : Int) (List.replicate 32 0) [] (0 : Int) (List.replicate 32 0) [] [] false false).f_Updater), one (slVP (dC 32) ((S_api_Replica.mk (0 : Int) (0 : Int) (List.replicate 32 0) [] (0 : Int) (List.replicate 32 0) [] [] false false).f_Watchers)), one (intVP .u64 ((S_api_Replica.mk (0 : Int) (0 : Int) (List.replicate 32 0) [] (0 : Int) (List.replicate 32 0) [] [] false false).f_Window)), bytesCk 32 ((S_api_Replica.mk (0 : Int) (0 : Int) (List.replicate 32 0) [] (0 : Int) (List.replicate 32 0) [] [] false false).f_Committed), one (slVP S_api_Timed.ck ((S_api_Replica.mk (0 : Int) (0 : Int) (List.replicate 32 0) [] (0 : Int) (List.replicate 32 0) [] [] false false).f_Roots)), one (slVP S_api_State.ck ((S_api_Replica.mk (0 : Int) (0 : Int) (List.replicate 32 0) [] (0 : Int) (List.replicate 32 0) [] [] false false).f_States)), one (boolVP ((S_api_Replica.mk (0 : Int) (0 : Int) (List.replicate 32 0) [] (0 : Int) (List.replicate 32 0) [] [] false false).f_Failed)), one (boolVP ((S_api_Replica.mk (0 : Int) (0 : Int) (List.replicate 32 0) [] (0 : Int) (List.replicate 32 0) [] [] false false).f_Cut)), one (strVP [])], [one (intVP .u32 1)], _, rfl, rfl, rfl, qi, (cells_one (one_int _ _)), ⟨[one (intVP .u32 1), one (intVP .u64 ((S_api_Ledger.mk (0 : Int) (0 : Int) (0 : Int) [] []).f_Height)), one (intVP .u64 ((S_api_Ledger.mk (0 : Int) (0 : Int) (0 : Int) [] []).f_Time)), one (intVP .u64 ((S_api_Ledger.mk (0 : Int) (0 : Int) (0 : Int) [] []).f_Gas)), one (slVP S_api_Account.ck ((S_api_Ledger.mk (0 : Int) (0 : Int) (0 : Int) [] []).f_Accounts)), one (slVP S_api_Event.ck ((S_api_Ledger.mk (0 : Int) (0 : Int) (0 : Int) [] []).f_Events))], [one (slVP S_api_Token.ck ((S_api_Purse.mk [] []).f_Tokens)), one (slVP S_api_Holding.ck ((S_api_Purse.mk [] []).f_Holdings))], [one (intVP .u32 ((S_api_Home.mk (0 : Int) (List.replicate 32 0) (S_api_Tree.mk (0 : Int) (List.replicate 32 (List.replicate 32 0))) [] [] (List.replicate 32 0) [] (0 : Int) false).f_Chain)), bytesCk 32 ((S_api_Home.mk (0 : Int) (List.replicate 32 0) (S_api_Tree.mk (0 : Int) (List.replicate 32 (List.replicate 32 0))) [] [] (List.replicate 32 0) [] (0 : Int) false).f_Updater), one (intVP .u32 (((S_api_Home.mk (0 : Int) (List.replicate 32 0) (S_api_Tree.mk (0 : Int) (List.replicate 32 (List.replicate 32 0))) [] [] (List.replicate 32 0) [] (0 : Int) false).f_Tree).f_Count)), arrCk 32 32 (dC 32) (lens_dC 32) (((S_api_Home.mk (0 : Int) (List.replicate 32 0) (S_api_Tree.mk (0 : Int) (List.replicate 32 (List.replicate 32 0))) [] [] (List.replicate 32 0) [] (0 : Int) false).f_Tree).f_Branches), one (slVP (dC 32) ((S_api_Home.mk (0 : Int) (List.replicate 32 0) (S_api_Tree.mk (0 : Int) (List.replicate 32 (List.replicate 32 0))) [] [] (List.replicate 32 0) [] (0 : Int) false).f_Leaves)), one (slVP (dC 32) ((S_api_Home.mk (0 : Int) (List.replicate 32 0) (S_api_Tree.mk (0 : Int) (List.replicate 32 (List.replicate 32 0))) [] [] (List.replicate 32 0) [] (0 : Int) false).f_Queue)), bytesCk 32 ((S_api_Home.mk (0 : Int) (List.replicate 32 0) (S_api_Tree.mk (0 : Int) (List.replicate 32 (List.replicate 32 0))) [] [] (List.replicate 32 0) [] (0 : Int) false).f_Committed), one (slVP S_api_Nonce.ck ((S_api_Home.mk (0 : Int) (List.replicate 32 0) (S_api_Tree.mk (0 : Int) (List.replicate 32 (List.replicate 32 0))) [] [] (List.replicate 32 0) [] (0 : Int) false).f_Nonces)), one (intVP .u64 ((S_api_Home.mk (0 : Int) (List.replicate 32 0) (S_api_Tree.mk (0 : Int) (List.replicate 32 (List.replicate 32 0))) [] [] (List.replicate 32 0) [] (0 : Int) false).f_Bond)), one (boolVP ((S_api_Home.mk (0 : Int) (List.replicate 32 0) (S_api_Tree.mk (0 : Int) (List.replicate 32 (List.replicate 32 0))) [] [] (List.replicate 32 0) [] (0 : Int) false).f_Failed)), one (intVP .u32 ((S_api_Replica.mk (0 : Int) (0 : Int) (List.replicate 32 0) [] (0 : Int) (List.replicate 32 0) [] [] false false).f_Chain)), one (intVP .u32 ((S_api_Replica.mk (0 : Int) (0 : Int) (List.replicate 32 0) [] (0 : Int) (List.replicate 32 0) [] [] false false).f_Here)), bytesCk 32 ((S_api_Replica.mk (0 : Int) (0 : Int) (List.replicate 32 0) [] (0 : Int) (List.replicate 32 0) [] [] false false).f_Updater), one (slVP (dC 32) ((S_api_Replica.mk (0 : Int) (0 : Int) (List.replicate 32 0) [] (0 : Int) (List.replicate 32 0) [] [] false false).f_Watchers)), one (intVP .u64 ((S_api_Replica.mk (0 : Int) (0 : Int) (List.replicate 32 0) [] (0 : Int) (List.replicate 32 0) [] [] false false).f_Window)), bytesCk 32 ((S_api_Replica.mk (0 : Int) (0 : Int) (List.replicate 32 0) [] (0 : Int) (List.replicate 32 0) [] [] false false).f_Committed), one (slVP S_api_Timed.ck ((S_api_Replica.mk (0 : Int) (0 : Int) (List.replicate 32 0) [] (0 : Int) (List.replicate 32 0) [] [] false false).f_Roots)), one (slVP S_api_State.ck ((S_api_Replica.mk (0 : Int) (0 : Int) (List.replicate 32 0) [] (0 : Int) (List.replicate 32 0) [] [] false false).f_States)), one (boolVP ((S_api_Replica.mk (0 : Int) (0 : Int) (List.replicate 32 0) [] (0 : Int) (List.replicate 32 0) [] [] false false).f_Failed)), one (boolVP ((S_api_Replica.mk (0 : Int) (0 : Int) (List.replicate 32 0) [] (0 : Int) (List.replicate 32 0) [] [] false false).f_Cut)), one (strVP [])], [one (slVP S_api_Token.ck r4.1.f_Tokens), one (slVP S_api_Holding.ck r4.1.f_Holdings)], _, rfl, rfl, rfl, q0, (cells_agg _), rfl⟩⟩)) <| oe [502, 500] [] (GOk.on_eq hb11 rfl rfl rfl (op_call Tryd.call12 (audit_Stands_ok hr6) ⟨q0, qi, (opc (sc _ (by decide))), trivial⟩)) <| oe [503, 500] [] (GOk.on_eq hb11 rfl rfl rfl (op_un (un_not _) q0)) <| ov [504, 500] (op_pick_t hb11 q0 q1) <| ov [500] (op_assign q0) .nil) fun _ a w h => ?_
            exact ⟨!r6, hF, h.sub [0] (by rfl)⟩
          · replace hF := ff_of hb11 hF
            refine reg mixed hn hG h [500] (ov [0] (op_move q0) <| ov [500] (op_bin bin_eql q0 qi) <| ov [500] (op_move q0) <| oe [500, 1] [] (GOk.on_eq hb8 rfl rfl rfl (op_move q0)) <| oe [501, 500] [] (GOk.on_eq hb8 rfl rfl rfl (op_bin bin_eql q0 qi)) <| ov [502, 500] (op_pick_t hb8 q0 q1) <| ov [500] (op_move q0) <| oe [500, 2] [] (GOk.on_eq hb9 rfl rfl rfl (op_move q0)) <| ov [501, 500] (op_pick_t hb9 q0 q1) <| ov [500] (op_move q0) <| oe [500, 3, 4] [] (GOk.on_eq hb10 rfl rfl rfl (op_load_w 1 Tryd.isAgg31 Tryd.sizeOf31 q0)) <| oe [501, 500] [] (GOk.on_eq hb10 rfl rfl rfl (op_build [(0, .const (.int .u32 1)), (2, .tmp 33)] rfl bu46 z46 ⟨[], [one (intVP .u32 (0 : Int))], [one (intVP .u64 ((S_api_Ledger.mk (0 : Int) (0 : Int) (0 : Int) [] []).f_Height)), one (intVP .u64 ((S_api_Ledger.mk (0 : Int) (0 : Int) (0 : Int) [] []).f_Time)), one (intVP .u64 ((S_api_Ledger.mk (0 : Int) (0 : Int) (0 : Int) [] []).f_Gas)), one (slVP S_api_Account.ck ((S_api_Ledger.mk (0 : Int) (0 : Int) (0 : Int) [] []).f_Accounts)), one (slVP S_api_Event.ck ((S_api_Ledger.mk (0 : Int) (0 : Int) (0 : Int) [] []).f_Events)), one (slVP S_api_Token.ck ((S_api_Purse.mk [] []).f_Tokens)), one (slVP S_api_Holding.ck ((S_api_Purse.mk [] []).f_Holdings)), one (intVP .u32 ((S_api_Home.mk (0 : Int) (List.replicate 32 0) (S_api_Tree.mk (0 : Int) (List.replicate 32 (List.replicate 32 0))) [] [] (List.replicate 32 0) [] (0 : Int) false).f_Chain)), bytesCk 32 ((S_api_Home.mk (0 : Int) (List.replicate 32 0) (S_api_Tree.mk (0 : Int) (List.replicate 32 (List.replicate 32 0))) [] [] (List.replicate 32 0) [] (0 : Int) false).f_Updater), one (intVP .u32 (((S_api_Home.mk (0 : Int) (List.replicate 32 0) (S_api_Tree.mk (0 : Int) (List.replicate 32 (List.replicate 32 0))) [] [] (List.replicate 32 0) [] (0 : Int) false).f_Tree).f_Count)), arrCk 32 32 (dC 32) (lens_dC 32) (((S_api_Home.mk (0 : Int) (List.replicate 32 0) (S_api_Tree.mk (0 : Int) (List.replicate 32 (List.replicate 32 0))) [] [] (List.replicate 32 0) [] (0 : Int) false).f_Tree).f_Branches), one (slVP (dC 32) ((S_api_Home.mk (0 : Int) (List.replicate 32 0) (S_api_Tree.mk (0 : Int) (List.replicate 32 (List.replicate 32 0))) [] [] (List.replicate 32 0) [] (0 : Int) false).f_Leaves)), one (slVP (dC 32) ((S_api_Home.mk (0 : Int) (List.replicate 32 0) (S_api_Tree.mk (0 : Int) (List.replicate 32 (List.replicate 32 0))) [] [] (List.replicate 32 0) [] (0 : Int) false).f_Queue)), bytesCk 32 ((S_api_Home.mk (0 : Int) (List.replicate 32 0) (S_api_Tree.mk (0 : Int) (List.replicate 32 (List.replicate 32 0))) [] [] (List.replicate 32 0) [] (0 : Int) false).f_Committed), one (slVP S_api_Nonce.ck ((S_api_Home.mk (0 : Int) (List.replicate 32 0) (S_api_Tree.mk (0 : Int) (List.replicate 32 (List.replicate 32 0))) [] [] (List.replicate 32 0) [] (0 : Int) false).f_Nonces)), one (intVP .u64 ((S_api_Home.mk (0 : Int) (List.replicate 32 0) (S_api_Tree.mk (0 : Int) (List.replicate 32 (List.replicate 32 0))) [] [] (List.replicate 32 0) [] (0 : Int) false).f_Bond)), one (boolVP ((S_api_Home.mk (0 : Int) (List.replicate 32 0) (S_api_Tree.mk (0 : Int) (List.replicate 32 (List.replicate 32 0))) [] [] (List.replicate 32 0) [] (0 : Int) false).f_Failed)), one (intVP .u32 ((S_api_Replica.mk (0 : Int) (0 : Int) (List.replicate 32 0) [] (0 : Int) (List.replicate 32 0) [] [] false false).f_Chain)), one (intVP .u32 ((S_api_Replica.mk (0 : Int) (0 : Int) (List.replicate 32 0) [] (0 : Int) (List.replicate 32 0) [] [] false false).f_Here)), bytesCk 32 ((S_api_Replica.mk (0 : Int) (0 : Int) (List.replicate 32 0) [] (0 : Int) (List.replicate 32 0) [] [] false false).f_Updater), one (slVP (dC 32) ((S_api_Replica.mk (0 : Int) (0 : Int) (List.replicate 32 0) [] (0 : Int) (List.replicate 32 0) [] [] false false).f_Watchers)), one (intVP .u64 ((S_api_Replica.mk (0 : Int) (0 : Int) (List.replicate 32 0) [] (0 : Int) (List.replicate 32 0) [] [] false false).f_Window)), bytesCk 32 ((S_api_Replica.mk (0 : Int) (0 : Int) (List.replicate 32 0) [] (0 : Int) (List.replicate 32 0) [] [] false false).f_Committed), one (slVP S_api_Timed.ck ((S_api_Replica.mk (0 : Int) (0 : Int) (List.replicate 32 0) [] (0 : Int) (List.replicate 32 0) [] [] false false).f_Roots)), one (slVP S_api_State.ck ((S_api_Replica.mk (0 : Int) (0 : Int) (List.replicate 32 0) [] (0 : Int) (List.replicate 32 0) [] [] false false).f_States)), one (boolVP ((S_api_Replica.mk (0 : Int) (0 : Int) (List.replicate 32 0) [] (0 : Int) (List.replicate 32 0) [] [] false false).f_Failed)), one (boolVP ((S_api_Replica.mk (0 : Int) (0 : Int) (List.replicate 32 0) [] (0 : Int) (List.replicate 32 0) [] [] false false).f_Cut)), one (strVP [])], [one (intVP .u32 1)], _, rfl, rfl, rfl, qi, (cells_one (one_int _ _)), ⟨[one (intVP .u32 1), one (intVP .u64 ((S_api_Ledger.mk (0 : Int) (0 : Int) (0 : Int) [] []).f_Height)), one (intVP .u64 ((S_api_Ledger.mk (0 : Int) (0 : Int) (0 : Int) [] []).f_Time)), one (intVP .u64 ((S_api_Ledger.mk (0 : Int) (0 : Int) (0 : Int) [] []).f_Gas)), one (slVP S_api_Account.ck ((S_api_Ledger.mk (0 : Int) (0 : Int) (0 : Int) [] []).f_Accounts)), one (slVP S_api_Event.ck ((S_api_Ledger.mk (0 : Int) (0 : Int) (0 : Int) [] []).f_Events))], [one (slVP S_api_Token.ck ((S_api_Purse.mk [] []).f_Tokens)), one (slVP S_api_Holding.ck ((S_api_Purse.mk [] []).f_Holdings))], [one (intVP .u32 ((S_api_Home.mk (0 : Int) (List.replicate 32 0) (S_api_Tree.mk (0 : Int) (List.replicate 32 (List.replicate 32 0))) [] [] (List.replicate 32 0) [] (0 : Int) false).f_Chain)), bytesCk 32 ((S_api_Home.mk (0 : Int) (List.replicate 32 0) (S_api_Tree.mk (0 : Int) (List.replicate 32 (List.replicate 32 0))) [] [] (List.replicate 32 0) [] (0 : Int) false).f_Updater), one (intVP .u32 (((S_api_Home.mk (0 : Int) (List.replicate 32 0) (S_api_Tree.mk (0 : Int) (List.replicate 32 (List.replicate 32 0))) [] [] (List.replicate 32 0) [] (0 : Int) false).f_Tree).f_Count)), arrCk 32 32 (dC 32) (lens_dC 32) (((S_api_Home.mk (0 : Int) (List.replicate 32 0) (S_api_Tree.mk (0 : Int) (List.replicate 32 (List.replicate 32 0))) [] [] (List.replicate 32 0) [] (0 : Int) false).f_Tree).f_Branches), one (slVP (dC 32) ((S_api_Home.mk (0 : Int) (List.replicate 32 0) (S_api_Tree.mk (0 : Int) (List.replicate 32 (List.replicate 32 0))) [] [] (List.replicate 32 0) [] (0 : Int) false).f_Leaves)), one (slVP (dC 32) ((S_api_Home.mk (0 : Int) (List.replicate 32 0) (S_api_Tree.mk (0 : Int) (List.replicate 32 (List.replicate 32 0))) [] [] (List.replicate 32 0) [] (0 : Int) false).f_Queue)), bytesCk 32 ((S_api_Home.mk (0 : Int) (List.replicate 32 0) (S_api_Tree.mk (0 : Int) (List.replicate 32 (List.replicate 32 0))) [] [] (List.replicate 32 0) [] (0 : Int) false).f_Committed), one (slVP S_api_Nonce.ck ((S_api_Home.mk (0 : Int) (List.replicate 32 0) (S_api_Tree.mk (0 : Int) (List.replicate 32 (List.replicate 32 0))) [] [] (List.replicate 32 0) [] (0 : Int) false).f_Nonces)), one (intVP .u64 ((S_api_Home.mk (0 : Int) (List.replicate 32 0) (S_api_Tree.mk (0 : Int) (List.replicate 32 (List.replicate 32 0))) [] [] (List.replicate 32 0) [] (0 : Int) false).f_Bond)), one (boolVP ((S_api_Home.mk (0 : Int) (List.replicate 32 0) (S_api_Tree.mk (0 : Int) (List.replicate 32 (List.replicate 32 0))) [] [] (List.replicate 32 0) [] (0 : Int) false).f_Failed)), one (intVP .u32 ((S_api_Replica.mk (0 : Int) (0 : Int) (List.replicate 32 0) [] (0 : Int) (List.replicate 32 0) [] [] false false).f_Chain)), one (intVP .u32 ((S_api_Replica.mk (0 : Int) (0 : Int) (List.replicate 32 0) [] (0 : Int) (List.replicate 32 0) [] [] false false).f_Here)), bytesCk 32 ((S_api_Replica.mk (0 : Int) (0 : Int) (List.replicate 32 0) [] (0 : Int) (List.replicate 32 0) [] [] false false).f_Updater), one (slVP (dC 32) ((S_api_Replica.mk (0 : Int) (0 : Int) (List.replicate 32 0) [] (0 : Int) (List.replicate 32 0) [] [] false false).f_Watchers)), one (intVP .u64 ((S_api_Replica.mk (0 : Int) (0 : Int) (List.replicate 32 0) [] (0 : Int) (List.replicate 32 0) [] [] false false).f_Window)), bytesCk 32 ((S_api_Replica.mk (0 : Int) (0 : Int) (List.replicate 32 0) [] (0 : Int) (List.replicate 32 0) [] [] false false).f_Committed), one (slVP S_api_Timed.ck ((S_api_Replica.mk (0 : Int) (0 : Int) (List.replicate 32 0) [] (0 : Int) (List.replicate 32 0) [] [] false false).f_Roots)), one (slVP S_api_State.ck ((S_api_Replica.mk (0 : Int) (0 : Int) (List.replicate 32 0) [] (0 : Int) (List.replicate 32 0) [] [] false false).f_States)), one (boolVP ((S_api_Replica.mk (0 : Int) (0 : Int) (List.replicate 32 0) [] (0 : Int) (List.replicate 32 0) [] [] false false).f_Failed)), one (boolVP ((S_api_Replica.mk (0 : Int) (0 : Int) (List.replicate 32 0) [] (0 : Int) (List.replicate 32 0) [] [] false false).f_Cut)), one (strVP [])], [one (slVP S_api_Token.ck r4.1.f_Tokens), one (slVP S_api_Holding.ck r4.1.f_Holdings)], _, rfl, rfl, rfl, q0, (cells_agg _), rfl⟩⟩)) <| oe [502, 500] [] (GOk.on_eq hb10 rfl rfl rfl (op_call Tryd.call10 (audit_Whole_ok hr5) ⟨q0, (opc (sc _ (by decide))), trivial⟩)) <| oe [503] [] (GOk.on_eq hb10 rfl rfl rfl (op_build [(1, .const (.int .u64 7))] rfl bu55 z55 ⟨[one (intVP .u64 (0 : Int))], [one (intVP .u64 (0 : Int))], [], [one (intVP .u64 7)], _, rfl, rfl, rfl, qi, (cells_one (one_int _ _)), rfl⟩)) <| oe [504, 501, 500] [] (GOk.on_eq hb10 rfl rfl rfl (op_bin (bin_steql (d := 1) Tryd.underlying55 (by kernel_rfl) Tryd.eqGuardType55 (.cons (L := [one (intVP .u64 r5.f_High)]) (M := [one (intVP .u64 (0 : Int))]) (by decide) rfl (eqc_int Tryd.underlying23 Tryd.isAgg23) rfl rfl (.cons (L := [one (intVP .u64 r5.f_Low)]) (M := [one (intVP .u64 7)]) (by decide) rfl (eqc_int Tryd.underlying23 Tryd.isAgg23) rfl rfl .nil))) q0 q1)) <| ov [505, 500] (op_pick_t hb10 q0 q1) <| ov [500] (op_move q0) <| oe [500] [] (GOk.off_v (want := true) hb11 rfl rfl rfl rfl) <| oe [501] [] (GOk.off_v (want := true) hb11 rfl rfl rfl rfl) <| oe [502] [] (GOk.off_v (want := true) hb11 rfl rfl rfl rfl) <| oe [503] [] (GOk.off_v (want := true) hb11 rfl rfl rfl rfl) <| ov [504] (op_pick_f hb11 q0 qb) <| ov [500] (op_assign q0) .nil) fun _ a w h => ?_
            exact ⟨false, hF, h.sub [0] (by rfl)⟩
        · replace hF := ff_of hb10 hF
          refine reg mixed hn hG h [500] (ov [0] (op_move q0) <| ov [500] (op_bin bin_eql q0 qi) <| ov [500] (op_move q0) <| oe [500, 1] [] (GOk.on_eq hb8 rfl rfl rfl (op_move q0)) <| oe [501, 500] [] (GOk.on_eq hb8 rfl rfl rfl (op_bin bin_eql q0 qi)) <| ov [502, 500] (op_pick_t hb8 q0 q1) <| ov [500] (op_move q0) <| oe [500, 2] [] (GOk.on_eq hb9 rfl rfl rfl (op_move q0)) <| ov [501, 500] (op_pick_t hb9 q0 q1) <| ov [500] (op_move q0) <| oe [500] [] (GOk.off_v (want := true) hb10 rfl rfl rfl rfl) <| oe [501] [] (GOk.off_v (want := true) hb10 rfl rfl rfl rfl) <| oe [502] [] (GOk.off_v (want := true) hb10 rfl rfl rfl rfl) <| oe [503] [] (GOk.off_v (want := true) hb10 rfl rfl rfl rfl) <| oe [504] [] (GOk.off_v (want := true) hb10 rfl rfl rfl rfl) <| ov [505] (op_pick_f hb10 q0 qb) <| ov [500] (op_move q0) <| oe [500] [] (GOk.off_v (want := true) rfl rfl rfl rfl rfl) <| oe [501] [] (GOk.off_v (want := true) rfl rfl rfl rfl rfl) <| oe [502] [] (GOk.off_v (want := true) rfl rfl rfl rfl rfl) <| oe [503] [] (GOk.off_v (want := true) rfl rfl rfl rfl rfl) <| ov [504] (op_pick_f rfl q0 qb) <| ov [500] (op_assign q0) .nil) fun _ a w h => ?_
          exact ⟨false, hF, h.sub [0] (by rfl)⟩
      · replace hF := ff_of hb9 hF
        refine reg mixed hn hG h [500] (ov [0] (op_move q0) <| ov [500] (op_bin bin_eql q0 qi) <| ov [500] (op_move q0) <| oe [500, 1] [] (GOk.on_eq hb8 rfl rfl rfl (op_move q0)) <| oe [501, 500] [] (GOk.on_eq hb8 rfl rfl rfl (op_bin bin_eql q0 qi)) <| ov [502, 500] (op_pick_t hb8 q0 q1) <| ov [500] (op_move q0) <| oe [500] [] (GOk.off_v (want := true) hb9 rfl rfl rfl rfl) <| ov [501] (op_pick_f hb9 q0 qb) <| ov [500] (op_move q0) <| oe [500] [] (GOk.off_v (want := true) rfl rfl rfl rfl rfl) <| oe [501] [] (GOk.off_v (want := true) rfl rfl rfl rfl rfl) <| oe [502] [] (GOk.off_v (want := true) rfl rfl rfl rfl rfl) <| oe [503] [] (GOk.off_v (want := true) rfl rfl rfl rfl rfl) <| oe [504] [] (GOk.off_v (want := true) rfl rfl rfl rfl rfl) <| ov [505] (op_pick_f rfl q0 qb) <| ov [500] (op_move q0) <| oe [500] [] (GOk.off_v (want := true) rfl rfl rfl rfl rfl) <| oe [501] [] (GOk.off_v (want := true) rfl rfl rfl rfl rfl) <| oe [502] [] (GOk.off_v (want := true) rfl rfl rfl rfl rfl) <| oe [503] [] (GOk.off_v (want := true) rfl rfl rfl rfl rfl) <| ov [504] (op_pick_f rfl q0 qb) <| ov [500] (op_assign q0) .nil) fun _ a w h => ?_
        exact ⟨false, hF, h.sub [0] (by rfl)⟩
    · replace hF := ff_of hb8 hF
      refine reg mixed hn hG h [500] (ov [0] (op_move q0) <| ov [500] (op_bin bin_eql q0 qi) <| ov [500] (op_move q0) <| oe [500] [] (GOk.off_v (want := true) hb8 rfl rfl rfl rfl) <| oe [501] [] (GOk.off_v (want := true) hb8 rfl rfl rfl rfl) <| ov [502] (op_pick_f hb8 q0 qb) <| ov [500] (op_move q0) <| oe [500] [] (GOk.off_v (want := true) rfl rfl rfl rfl rfl) <| ov [501] (op_pick_f rfl q0 qb) <| ov [500] (op_move q0) <| oe [500] [] (GOk.off_v (want := true) rfl rfl rfl rfl rfl) <| oe [501] [] (GOk.off_v (want := true) rfl rfl rfl rfl rfl) <| oe [502] [] (GOk.off_v (want := true) rfl rfl rfl rfl rfl) <| oe [503] [] (GOk.off_v (want := true) rfl rfl rfl rfl rfl) <| oe [504] [] (GOk.off_v (want := true) rfl rfl rfl rfl rfl) <| ov [505] (op_pick_f rfl q0 qb) <| ov [500] (op_move q0) <| oe [500] [] (GOk.off_v (want := true) rfl rfl rfl rfl rfl) <| oe [501] [] (GOk.off_v (want := true) rfl rfl rfl rfl rfl) <| oe [502] [] (GOk.off_v (want := true) rfl rfl rfl rfl rfl) <| oe [503] [] (GOk.off_v (want := true) rfl rfl rfl rfl rfl) <| ov [504] (op_pick_f rfl q0 qb) <| ov [500] (op_assign q0) .nil) fun _ a w h => ?_
      exact ⟨false, hF, h.sub [0] (by rfl)⟩
  · clear h hF
    rintro a w ⟨x7, hF, h⟩
    unfold law28_awake.j1 at hF
    show Code.wp Tryd.prog _ _ a w
    refine wp_ret ?_
    obtain rfl := Option.some.inj hF
    exact ⟨.inl rfl, ret1 h Tryd.results5 (r_tmp 0 rfl) [] [] rfl rfl rfl⟩
end Go.Proofs.YtafeolgdggncnaaDoor
