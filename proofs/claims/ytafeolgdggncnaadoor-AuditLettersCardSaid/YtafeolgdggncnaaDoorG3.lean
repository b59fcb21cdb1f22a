/- The functions' Lean twins and contracts, printed by this session's own program: part 3. -/
import Derived.Test.YtafeolgdggncnaaDoorG2
namespace Go.Proofs.YtafeolgdggncnaaDoor
open Go Go.RowKit Go.Proofs
set_option maxRecDepth 100000
set_option maxHeartbeats 4000000
set_option linter.unusedVariables false
def letter_Same (a_0 : S_api_Letter) (a_1 : S_api_Letter) : Option Bool := some ((decide (a_0.f_From = a_1.f_From)) && ((decide (a_0.f_Nonce = a_1.f_Nonce)) && ((decide (a_0.f_To = a_1.f_To)) && ((decide (a_0.f_Sender = a_1.f_Sender)) && ((decide (a_0.f_Receiver = a_1.f_Receiver)) && ((decide (a_0.f_Body = a_1.f_Body)) && true))))))
theorem letter_Same_ok {a_0 : S_api_Letter} {a_1 : S_api_Letter} {r : Bool} (hF : letter_Same a_0 a_1 = some r) : CallOk Tryd.prog KG 66 [(aggVP [one (intVP .u32 a_0.f_From), one (intVP .u32 a_0.f_Nonce), one (intVP .u32 a_0.f_To), one (strVP a_0.f_Sender), one (strVP a_0.f_Receiver), one (strVP a_0.f_Body)]), (aggVP [one (intVP .u32 a_1.f_From), one (intVP .u32 a_1.f_Nonce), one (intVP .u32 a_1.f_To), one (strVP a_1.f_Sender), one (strVP a_1.f_Receiver), one (strVP a_1.f_Body)])] [] (fun _ => []) (boolVP r) := by
  refine CallOk.intro 8 Tryd.func66 rfl Tryd.ntmps66 (Nat.le_of_ble_eq_true rfl) ?_
  intro c a w hG hn h
  unfold letter_Same at hF
  change SatL c [.slot 0 (aggVP [one (intVP .u32 a_0.f_From), one (intVP .u32 a_0.f_Nonce), one (intVP .u32 a_0.f_To), one (strVP a_0.f_Sender), one (strVP a_0.f_Receiver), one (strVP a_0.f_Body)]), .slot 1 (aggVP [one (intVP .u32 a_1.f_From), one (intVP .u32 a_1.f_Nonce), one (intVP .u32 a_1.f_To), one (strVP a_1.f_Sender), one (strVP a_1.f_Receiver), one (strVP a_1.f_Body)])] a w at h
  refine regS mixed hn hG h [504, 502, 503, 501] (ob [0] (op_box q0 (cells_agg _)) <| ob [1] (op_box q0 (cells_agg _)) <| ov [] (op_assign qb) .nil) fun b1 a w h => ?_
  refine regS mixed hn hG h [500] (ov [0, 2] (op_load_w 1 Tryd.isAgg66 Tryd.sizeOf66 q0) <| ov [1, 3] (op_load_w 1 Tryd.isAgg66 Tryd.sizeOf66 q0) <| ov [501, 500] (op_bin (bin_steql (d := 1) Tryd.underlying66 (by kernel_rfl) Tryd.eqGuardType66 (.cons (L := [one (intVP .u32 a_0.f_From)]) (M := [one (intVP .u32 a_1.f_From)]) (by decide) rfl (eqc_int Tryd.underlying22 Tryd.isAgg22) rfl rfl (.cons (L := [one (intVP .u32 a_0.f_Nonce)]) (M := [one (intVP .u32 a_1.f_Nonce)]) (by decide) rfl (eqc_int Tryd.underlying22 Tryd.isAgg22) rfl rfl (.cons (L := [one (intVP .u32 a_0.f_To)]) (M := [one (intVP .u32 a_1.f_To)]) (by decide) rfl (eqc_int Tryd.underlying22 Tryd.isAgg22) rfl rfl (.cons (L := [one (strVP a_0.f_Sender)]) (M := [one (strVP a_1.f_Sender)]) (by decide) rfl (eqc_str Tryd.underlying9 Tryd.isAgg9) rfl rfl (.cons (L := [one (strVP a_0.f_Receiver)]) (M := [one (strVP a_1.f_Receiver)]) (by decide) rfl (eqc_str Tryd.underlying9 Tryd.isAgg9) rfl rfl (.cons (L := [one (strVP a_0.f_Body)]) (M := [one (strVP a_1.f_Body)]) (by decide) rfl (eqc_str Tryd.underlying9 Tryd.isAgg9) rfl rfl .nil))))))) q0 q1) <| ov [500] (op_assign q0) .nil) fun _ a w h => ?_
  refine wp_ret ?_
  obtain rfl := Option.some.inj hF
  exact ⟨.inl rfl, ret1 h Tryd.results66 (r_tmp 0 rfl) [] [] rfl rfl rfl⟩

def audit_has_1 (a_0 : S_api_Letter) (c_1 : S_api_Letter) : Option Bool := ((letter_Same c_1 a_0).bind fun r2 => some r2)
theorem audit_has_1_ok {a_0 : S_api_Letter} {c_1 : S_api_Letter} {r : Bool} (hF : audit_has_1 a_0 c_1 = some r) : CallOk Tryd.prog KG 65 [(aggVP [one (intVP .u32 a_0.f_From), one (intVP .u32 a_0.f_Nonce), one (intVP .u32 a_0.f_To), one (strVP a_0.f_Sender), one (strVP a_0.f_Receiver), one (strVP a_0.f_Body)]), (ppVP [one (intVP .u32 c_1.f_From), one (intVP .u32 c_1.f_Nonce), one (intVP .u32 c_1.f_To), one (strVP c_1.f_Sender), one (strVP c_1.f_Receiver), one (strVP c_1.f_Body)])] [] (fun _ => []) (boolVP r) := by
  refine CallOk.intro 7 Tryd.func65 rfl Tryd.ntmps65 (Nat.le_of_ble_eq_true rfl) ?_
  intro c a w hG hn h
  unfold audit_has_1 at hF
  change SatL c [.slot 0 (aggVP [one (intVP .u32 a_0.f_From), one (intVP .u32 a_0.f_Nonce), one (intVP .u32 a_0.f_To), one (strVP a_0.f_Sender), one (strVP a_0.f_Receiver), one (strVP a_0.f_Body)]), .slot 1 (ppVP [one (intVP .u32 c_1.f_From), one (intVP .u32 c_1.f_Nonce), one (intVP .u32 c_1.f_To), one (strVP c_1.f_Sender), one (strVP c_1.f_Receiver), one (strVP c_1.f_Body)])] a w at h
  refine regS mixed hn hG h [1, 502, 501] (ob [0] (op_box q0 (cells_agg _)) <| ov [] (op_assign qb) .nil) fun b1 a w h => ?_
  obtain ⟨r2, hr2, hF⟩ := bind_some hF
  refine regS mixed hn hG h [500] (ov [0] (op_load_pp [one (intVP .u32 c_1.f_From), one (intVP .u32 c_1.f_Nonce), one (intVP .u32 c_1.f_To), one (strVP c_1.f_Sender), one (strVP c_1.f_Receiver), one (strVP c_1.f_Body)] [] Tryd.isAgg66 Tryd.sizeOf66 q0 rfl) <| ov [1, 2] (op_load_w 1 Tryd.isAgg66 Tryd.sizeOf66 q0) <| oc [501, 500] [] Tryd.call66 (letter_Same_ok hr2) ⟨q0, q1, trivial⟩ <| ov [500] (op_assign q0) .nil) fun _ a w h => ?_
  refine wp_ret ?_
  obtain rfl := Option.some.inj hF
  exact ⟨.inl rfl, ret1 h Tryd.results65 (r_tmp 0 rfl) [] [] rfl rfl rfl⟩

def audit_has (a_0 : List (S_api_Letter)) (a_1 : S_api_Letter) : Option Bool := ((slices_ContainsFunc_api_Letter a_0 (fun x : S_api_Letter => audit_has_1 x a_1)).bind fun r2 => some r2)
theorem audit_has_ok {a_0 : List (S_api_Letter)} {a_1 : S_api_Letter} {r : Bool} (hF : audit_has a_0 a_1 = some r) : CallOk Tryd.prog KG 42 [(slVP S_api_Letter.ck a_0), (aggVP [one (intVP .u32 a_1.f_From), one (intVP .u32 a_1.f_Nonce), one (intVP .u32 a_1.f_To), one (strVP a_1.f_Sender), one (strVP a_1.f_Receiver), one (strVP a_1.f_Body)])] [] (fun _ => []) (boolVP r) := by
  refine CallOk.intro 8 Tryd.func42 rfl Tryd.ntmps42 (Nat.le_of_ble_eq_true rfl) ?_
  intro c a w hG hn h
  unfold audit_has at hF
  change SatL c [.slot 0 (slVP S_api_Letter.ck a_0), .slot 1 (aggVP [one (intVP .u32 a_1.f_From), one (intVP .u32 a_1.f_Nonce), one (intVP .u32 a_1.f_To), one (strVP a_1.f_Sender), one (strVP a_1.f_Receiver), one (strVP a_1.f_Body)])] a w at h
  refine regS mixed hn hG h [0, 502, 501] (ob [1] (op_box q0 (cells_agg _)) <| ov [] (op_assign qb) .nil) fun b1 a w h => ?_
  replace h := h.publish 2 rfl
  replace h := h.factslot 1 2 rfl rfl
  replace h := h.sub [0, 1] (by rfl)
  change SatL c [.slot 0 (slVP S_api_Letter.ck a_0), .slot 3 (ppVP [one (intVP .u32 a_1.f_From), one (intVP .u32 a_1.f_Nonce), one (intVP .u32 a_1.f_To), one (strVP a_1.f_Sender), one (strVP a_1.f_Receiver), one (strVP a_1.f_Body)])] a w at h
  obtain ⟨r2, hr2, hF⟩ := bind_some hF
  refine regS mixed hn hG h [500] (ov [0] (op_move q0) <| ov [1] (op_makeFunc_pp (A := (fun x : S_api_Letter => [(aggVP [one (intVP .u32 x.f_From), one (intVP .u32 x.f_Nonce), one (intVP .u32 x.f_To), one (strVP x.f_Sender), one (strVP x.f_Receiver), one (strVP x.f_Body)])])) (B := (fun r : Bool => (boolVP r))) (g := (fun x : S_api_Letter => audit_has_1 x a_1)) (Cs := [(ppVP [one (intVP .u32 a_1.f_From), one (intVP .u32 a_1.f_Nonce), one (intVP .u32 a_1.f_To), one (strVP a_1.f_Sender), one (strVP a_1.f_Receiver), one (strVP a_1.f_Body)])]) Tryd.call65 (fun x r h => audit_has_1_ok h) ⟨q0, trivial⟩) <| oc [501, 500] [] Tryd.call64 (slices_ContainsFunc_api_Letter_ok hr2) ⟨q0, q1, trivial⟩ <| ov [500] (op_assign q0) .nil) fun _ a w h => ?_
  refine wp_ret ?_
  obtain rfl := Option.some.inj hF
  exact ⟨.inl rfl, ret1 h Tryd.results42 (r_tmp 0 rfl) [] [] rfl rfl rfl⟩

def audit_Foreign_1 (a_0 : S_api_Letter) (c_1 : List (S_api_Letter)) : Option Bool := ((audit_has c_1 a_0).bind fun r2 => some (!r2))
theorem audit_Foreign_1_ok {a_0 : S_api_Letter} {c_1 : List (S_api_Letter)} {r : Bool} (hF : audit_Foreign_1 a_0 c_1 = some r) : CallOk Tryd.prog KG 41 [(aggVP [one (intVP .u32 a_0.f_From), one (intVP .u32 a_0.f_Nonce), one (intVP .u32 a_0.f_To), one (strVP a_0.f_Sender), one (strVP a_0.f_Receiver), one (strVP a_0.f_Body)]), (ppVP [one (slVP S_api_Letter.ck c_1)])] [] (fun _ => []) (boolVP r) := by
  refine CallOk.intro 8 Tryd.func41 rfl Tryd.ntmps41 (Nat.le_of_ble_eq_true rfl) ?_
  intro c a w hG hn h
  unfold audit_Foreign_1 at hF
  change SatL c [.slot 0 (aggVP [one (intVP .u32 a_0.f_From), one (intVP .u32 a_0.f_Nonce), one (intVP .u32 a_0.f_To), one (strVP a_0.f_Sender), one (strVP a_0.f_Receiver), one (strVP a_0.f_Body)]), .slot 1 (ppVP [one (slVP S_api_Letter.ck c_1)])] a w at h
  refine regS mixed hn hG h [1, 502, 501] (ob [0] (op_box q0 (cells_agg _)) <| ov [] (op_assign qb) .nil) fun b1 a w h => ?_
  obtain ⟨r2, hr2, hF⟩ := bind_some hF
  refine regS mixed hn hG h [500] (ov [0] (op_load_pp1 [] Tryd.isAgg63 q0) <| ov [1, 2] (op_load_w 1 Tryd.isAgg66 Tryd.sizeOf66 q0) <| oc [501, 500] [] Tryd.call42 (audit_has_ok hr2) ⟨q0, q1, trivial⟩ <| ov [500] (op_un (un_not _) q0) <| ov [500] (op_assign q0) .nil) fun _ a w h => ?_
  refine wp_ret ?_
  obtain rfl := Option.some.inj hF
  exact ⟨.inl rfl, ret1 h Tryd.results41 (r_tmp 0 rfl) [] [] rfl rfl rfl⟩

def audit_Foreign (a_0 : List (S_api_Letter)) (a_1 : List (S_api_Letter)) : Option Int := ((slices_IndexFunc_api_Letter a_1 (fun x : S_api_Letter => audit_Foreign_1 x a_0)).bind fun r2 => some r2)
theorem audit_Foreign_ok {a_0 : List (S_api_Letter)} {a_1 : List (S_api_Letter)} {r : Int} (hF : audit_Foreign a_0 a_1 = some r) : CallOk Tryd.prog KG 18 [(slVP S_api_Letter.ck a_0), (slVP S_api_Letter.ck a_1)] [] (fun _ => []) (intVP .i64 r) := by
  refine CallOk.intro 8 Tryd.func18 rfl Tryd.ntmps18 (Nat.le_of_ble_eq_true rfl) ?_
  intro c a w hG hn h
  unfold audit_Foreign at hF
  change SatL c [.slot 0 (slVP S_api_Letter.ck a_0), .slot 1 (slVP S_api_Letter.ck a_1)] a w at h
  refine regS mixed hn hG h [1, 502, 501] (ob [0] (op_box q0 (cells_one (one_sl _ _))) <| ov [] (op_assign qi) .nil) fun b1 a w h => ?_
  replace h := h.publish 2 rfl
  replace h := h.factslot 1 2 rfl rfl
  replace h := h.sub [0, 1] (by rfl)
  change SatL c [.slot 1 (slVP S_api_Letter.ck a_1), .slot 2 (ppVP [one (slVP S_api_Letter.ck a_0)])] a w at h
  obtain ⟨r2, hr2, hF⟩ := bind_some hF
  refine regS mixed hn hG h [500] (ov [0] (op_move q0) <| ov [1] (op_makeFunc_pp (A := (fun x : S_api_Letter => [(aggVP [one (intVP .u32 x.f_From), one (intVP .u32 x.f_Nonce), one (intVP .u32 x.f_To), one (strVP x.f_Sender), one (strVP x.f_Receiver), one (strVP x.f_Body)])])) (B := (fun r : Bool => (boolVP r))) (g := (fun x : S_api_Letter => audit_Foreign_1 x a_0)) (Cs := [(ppVP [one (slVP S_api_Letter.ck a_0)])]) Tryd.call41 (fun x r h => audit_Foreign_1_ok h) ⟨q0, trivial⟩) <| oc [501, 500] [] Tryd.call40 (slices_IndexFunc_api_Letter_ok hr2) ⟨q0, q1, trivial⟩ <| ov [500] (op_assign q0) .nil) fun _ a w h => ?_
  refine wp_ret ?_
  obtain rfl := Option.some.inj hF
  exact ⟨.inl rfl, ret1 h Tryd.results18 (r_tmp 0 rfl) [] [] rfl rfl rfl⟩

def ref09_Same.j1 (x3 : Bool) : Option Bool := some x3
def ref09_Same (a_0 : S_api_Letter) (a_1 : S_api_Letter) : Option Bool := (if (decide (a_0.f_From = a_1.f_From)) = true then (if (decide (a_0.f_Nonce = a_1.f_Nonce)) = true then (if (decide (a_0.f_To = a_1.f_To)) = true then (if (decide (a_0.f_Sender = a_1.f_Sender)) = true then (if (decide (a_0.f_Receiver = a_1.f_Receiver)) = true then ref09_Same.j1 (decide (a_0.f_Body = a_1.f_Body)) else ref09_Same.j1 false) else ref09_Same.j1 false) else ref09_Same.j1 false) else ref09_Same.j1 false) else ref09_Same.j1 false)
theorem ref09_Same_ok {a_0 : S_api_Letter} {a_1 : S_api_Letter} {r : Bool} (hF : ref09_Same a_0 a_1 = some r) : CallOk Tryd.prog KG 43 [(aggVP [one (intVP .u32 a_0.f_From), one (intVP .u32 a_0.f_Nonce), one (intVP .u32 a_0.f_To), one (strVP a_0.f_Sender), one (strVP a_0.f_Receiver), one (strVP a_0.f_Body)]), (aggVP [one (intVP .u32 a_1.f_From), one (intVP .u32 a_1.f_Nonce), one (intVP .u32 a_1.f_To), one (strVP a_1.f_Sender), one (strVP a_1.f_Receiver), one (strVP a_1.f_Body)])] [] (fun _ => []) (boolVP r) := by
  refine CallOk.intro 45 Tryd.func43 rfl Tryd.ntmps43 (Nat.le_of_ble_eq_true rfl) ?_
  intro c a w hG hn h
  unfold ref09_Same at hF
  change SatL c [.slot 0 (aggVP [one (intVP .u32 a_0.f_From), one (intVP .u32 a_0.f_Nonce), one (intVP .u32 a_0.f_To), one (strVP a_0.f_Sender), one (strVP a_0.f_Receiver), one (strVP a_0.f_Body)]), .slot 1 (aggVP [one (intVP .u32 a_1.f_From), one (intVP .u32 a_1.f_Nonce), one (intVP .u32 a_1.f_To), one (strVP a_1.f_Sender), one (strVP a_1.f_Receiver), one (strVP a_1.f_Body)])] a w at h
  refine regS mixed hn hG h [504, 502, 503, 501] (ob [0] (op_box q0 (cells_agg _)) <| ob [1] (op_box q0 (cells_agg _)) <| ov [] (op_assign qb) .nil) fun b1 a w h => ?_
  refine wp_seq ?_
  refine wp_cut (fun a w => ∃ (x3 : Bool), ref09_Same.j1 x3 = some r ∧ SatL c [.slot 4 (boolVP x3)] a w) ?_ ?_
  · rcases Bool.eq_false_or_eq_true (decide (a_0.f_From = a_1.f_From)) with hb4 | hb4
    · replace hF := tt_of hb4 hF
      rcases Bool.eq_false_or_eq_true (decide (a_0.f_Nonce = a_1.f_Nonce)) with hb5 | hb5
      · replace hF := tt_of hb5 hF
        rcases Bool.eq_false_or_eq_true (decide (a_0.f_To = a_1.f_To)) with hb6 | hb6
        · replace hF := tt_of hb6 hF
          rcases Bool.eq_false_or_eq_true (decide (a_0.f_Sender = a_1.f_Sender)) with hb7 | hb7
          · replace hF := tt_of hb7 hF
            rcases Bool.eq_false_or_eq_true (decide (a_0.f_Receiver = a_1.f_Receiver)) with hb8 | hb8
            · replace hF := tt_of hb8 hF
              refine reg mixed hn hG h [500] (ov [0] (op_fieldAddr_lbm (p := (b1 0)) (n := 1) 0 0 Tryd.underlying66 rfl Tryd.sizeOf22 (by decide) q0 rfl) <| ov [500, 2] (op_load_lb1 [] [one (intVP .u32 a_0.f_Nonce), one (intVP .u32 a_0.f_To), one (strVP a_0.f_Sender), one (strVP a_0.f_Receiver), one (strVP a_0.f_Body)] 1 Tryd.isAgg22 q0 rfl rfl) <| ov [1] (op_fieldAddr_lbm (p := (b1 1)) (n := 1) 0 0 Tryd.underlying66 rfl Tryd.sizeOf22 (by decide) q0 rfl) <| ov [500, 3] (op_load_lb1 [] [one (intVP .u32 a_1.f_Nonce), one (intVP .u32 a_1.f_To), one (strVP a_1.f_Sender), one (strVP a_1.f_Receiver), one (strVP a_1.f_Body)] 1 Tryd.isAgg22 q0 rfl rfl) <| ov [502, 500] (op_bin bin_eql q0 q1) <| ov [500] (op_move q0) <| oe [500, 0] [] (GOk.on_eq hb4 rfl rfl rfl (op_fieldAddr_lbm (p := (b1 0)) (n := 1) 0 1 Tryd.underlying66 rfl Tryd.sizeOf22 (by decide) q0 rfl)) <| oe [501, 500, 2] [] (GOk.on_eq hb4 rfl rfl rfl (op_load_lb1 [one (intVP .u32 a_0.f_From)] [one (intVP .u32 a_0.f_To), one (strVP a_0.f_Sender), one (strVP a_0.f_Receiver), one (strVP a_0.f_Body)] 1 Tryd.isAgg22 q0 rfl rfl)) <| oe [502, 1] [] (GOk.on_eq hb4 rfl rfl rfl (op_fieldAddr_lbm (p := (b1 1)) (n := 1) 0 1 Tryd.underlying66 rfl Tryd.sizeOf22 (by decide) q0 rfl)) <| oe [503, 500, 3] [] (GOk.on_eq hb4 rfl rfl rfl (op_load_lb1 [one (intVP .u32 a_1.f_From)] [one (intVP .u32 a_1.f_To), one (strVP a_1.f_Sender), one (strVP a_1.f_Receiver), one (strVP a_1.f_Body)] 1 Tryd.isAgg22 q0 rfl rfl)) <| oe [504, 502, 500] [] (GOk.on_eq hb4 rfl rfl rfl (op_bin bin_eql q0 q1)) <| ov [505, 500] (op_pick_t hb4 q0 q1) <| ov [500] (op_move q0) <| oe [500, 0] [] (GOk.on_eq hb5 rfl rfl rfl (op_fieldAddr_lbm (p := (b1 0)) (n := 1) 0 2 Tryd.underlying66 rfl Tryd.sizeOf22 (by decide) q0 rfl)) <| oe [501, 500, 2] [] (GOk.on_eq hb5 rfl rfl rfl (op_load_lb1 [one (intVP .u32 a_0.f_From), one (intVP .u32 a_0.f_Nonce)] [one (strVP a_0.f_Sender), one (strVP a_0.f_Receiver), one (strVP a_0.f_Body)] 1 Tryd.isAgg22 q0 rfl rfl)) <| oe [502, 1] [] (GOk.on_eq hb5 rfl rfl rfl (op_fieldAddr_lbm (p := (b1 1)) (n := 1) 0 2 Tryd.underlying66 rfl Tryd.sizeOf22 (by decide) q0 rfl)) <| oe [503, 500, 3] [] (GOk.on_eq hb5 rfl rfl rfl (op_load_lb1 [one (intVP .u32 a_1.f_From), one (intVP .u32 a_1.f_Nonce)] [one (strVP a_1.f_Sender), one (strVP a_1.f_Receiver), one (strVP a_1.f_Body)] 1 Tryd.isAgg22 q0 rfl rfl)) <| oe [504, 502, 500] [] (GOk.on_eq hb5 rfl rfl rfl (op_bin bin_eql q0 q1)) <| ov [505, 500] (op_pick_t hb5 q0 q1) <| ov [500] (op_move q0) <| oe [500, 0] [] (GOk.on_eq hb6 rfl rfl rfl (op_fieldAddr_lbm (p := (b1 0)) (n := 1) 0 3 Tryd.underlying66 rfl Tryd.sizeOf9 (by decide) q0 rfl)) <| oe [501, 500, 2] [] (GOk.on_eq hb6 rfl rfl rfl (op_load_lb1 [one (intVP .u32 a_0.f_From), one (intVP .u32 a_0.f_Nonce), one (intVP .u32 a_0.f_To)] [one (strVP a_0.f_Receiver), one (strVP a_0.f_Body)] 1 Tryd.isAgg9 q0 rfl rfl)) <| oe [502, 1] [] (GOk.on_eq hb6 rfl rfl rfl (op_fieldAddr_lbm (p := (b1 1)) (n := 1) 0 3 Tryd.underlying66 rfl Tryd.sizeOf9 (by decide) q0 rfl)) <| oe [503, 500, 3] [] (GOk.on_eq hb6 rfl rfl rfl (op_load_lb1 [one (intVP .u32 a_1.f_From), one (intVP .u32 a_1.f_Nonce), one (intVP .u32 a_1.f_To)] [one (strVP a_1.f_Receiver), one (strVP a_1.f_Body)] 1 Tryd.isAgg9 q0 rfl rfl)) <| oe [504, 502, 500] [] (GOk.on_eq hb6 rfl rfl rfl (op_bin bin_seql q0 q1)) <| ov [505, 500] (op_pick_t hb6 q0 q1) <| ov [500] (op_move q0) <| oe [500, 0] [] (GOk.on_eq hb7 rfl rfl rfl (op_fieldAddr_lbm (p := (b1 0)) (n := 1) 0 4 Tryd.underlying66 rfl Tryd.sizeOf9 (by decide) q0 rfl)) <| oe [501, 500, 2] [] (GOk.on_eq hb7 rfl rfl rfl (op_load_lb1 [one (intVP .u32 a_0.f_From), one (intVP .u32 a_0.f_Nonce), one (intVP .u32 a_0.f_To), one (strVP a_0.f_Sender)] [one (strVP a_0.f_Body)] 1 Tryd.isAgg9 q0 rfl rfl)) <| oe [502, 1] [] (GOk.on_eq hb7 rfl rfl rfl (op_fieldAddr_lbm (p := (b1 1)) (n := 1) 0 4 Tryd.underlying66 rfl Tryd.sizeOf9 (by decide) q0 rfl)) <| oe [503, 500, 3] [] (GOk.on_eq hb7 rfl rfl rfl (op_load_lb1 [one (intVP .u32 a_1.f_From), one (intVP .u32 a_1.f_Nonce), one (intVP .u32 a_1.f_To), one (strVP a_1.f_Sender)] [one (strVP a_1.f_Body)] 1 Tryd.isAgg9 q0 rfl rfl)) <| oe [504, 502, 500] [] (GOk.on_eq hb7 rfl rfl rfl (op_bin bin_seql q0 q1)) <| ov [505, 500] (op_pick_t hb7 q0 q1) <| ov [500] (op_move q0) <| oe [500, 0] [] (GOk.on_eq hb8 rfl rfl rfl (op_fieldAddr_lbm (p := (b1 0)) (n := 1) 0 5 Tryd.underlying66 rfl Tryd.sizeOf9 (by decide) q0 rfl)) <| oe [501, 500, 2] [] (GOk.on_eq hb8 rfl rfl rfl (op_load_lb1 [one (intVP .u32 a_0.f_From), one (intVP .u32 a_0.f_Nonce), one (intVP .u32 a_0.f_To), one (strVP a_0.f_Sender), one (strVP a_0.f_Receiver)] [] 1 Tryd.isAgg9 q0 rfl rfl)) <| oe [502, 1] [] (GOk.on_eq hb8 rfl rfl rfl (op_fieldAddr_lbm (p := (b1 1)) (n := 1) 0 5 Tryd.underlying66 rfl Tryd.sizeOf9 (by decide) q0 rfl)) <| oe [503, 500, 3] [] (GOk.on_eq hb8 rfl rfl rfl (op_load_lb1 [one (intVP .u32 a_1.f_From), one (intVP .u32 a_1.f_Nonce), one (intVP .u32 a_1.f_To), one (strVP a_1.f_Sender), one (strVP a_1.f_Receiver)] [] 1 Tryd.isAgg9 q0 rfl rfl)) <| oe [504, 502, 500] [] (GOk.on_eq hb8 rfl rfl rfl (op_bin bin_seql q0 q1)) <| ov [505, 500] (op_pick_t hb8 q0 q1) <| ov [500] (op_assign q0) .nil) fun _ a w h => ?_
              exact ⟨decide (a_0.f_Body = a_1.f_Body), hF, h.sub [0] (by rfl)⟩
            · replace hF := ff_of hb8 hF
              refine reg mixed hn hG h [500] (ov [0] (op_fieldAddr_lbm (p := (b1 0)) (n := 1) 0 0 Tryd.underlying66 rfl Tryd.sizeOf22 (by decide) q0 rfl) <| ov [500, 2] (op_load_lb1 [] [one (intVP .u32 a_0.f_Nonce), one (intVP .u32 a_0.f_To), one (strVP a_0.f_Sender), one (strVP a_0.f_Receiver), one (strVP a_0.f_Body)] 1 Tryd.isAgg22 q0 rfl rfl) <| ov [1] (op_fieldAddr_lbm (p := (b1 1)) (n := 1) 0 0 Tryd.underlying66 rfl Tryd.sizeOf22 (by decide) q0 rfl) <| ov [500, 3] (op_load_lb1 [] [one (intVP .u32 a_1.f_Nonce), one (intVP .u32 a_1.f_To), one (strVP a_1.f_Sender), one (strVP a_1.f_Receiver), one (strVP a_1.f_Body)] 1 Tryd.isAgg22 q0 rfl rfl) <| ov [502, 500] (op_bin bin_eql q0 q1) <| ov [500] (op_move q0) <| oe [500, 0] [] (GOk.on_eq hb4 rfl rfl rfl (op_fieldAddr_lbm (p := (b1 0)) (n := 1) 0 1 Tryd.underlying66 rfl Tryd.sizeOf22 (by decide) q0 rfl)) <| oe [501, 500, 2] [] (GOk.on_eq hb4 rfl rfl rfl (op_load_lb1 [one (intVP .u32 a_0.f_From)] [one (intVP .u32 a_0.f_To), one (strVP a_0.f_Sender), one (strVP a_0.f_Receiver), one (strVP a_0.f_Body)] 1 Tryd.isAgg22 q0 rfl rfl)) <| oe [502, 1] [] (GOk.on_eq hb4 rfl rfl rfl (op_fieldAddr_lbm (p := (b1 1)) (n := 1) 0 1 Tryd.underlying66 rfl Tryd.sizeOf22 (by decide) q0 rfl)) <| oe [503, 500, 3] [] (GOk.on_eq hb4 rfl rfl rfl (op_load_lb1 [one (intVP .u32 a_1.f_From)] [one (intVP .u32 a_1.f_To), one (strVP a_1.f_Sender), one (strVP a_1.f_Receiver), one (strVP a_1.f_Body)] 1 Tryd.isAgg22 q0 rfl rfl)) <| oe [504, 502, 500] [] (GOk.on_eq hb4 rfl rfl rfl (op_bin bin_eql q0 q1)) <| ov [505, 500] (op_pick_t hb4 q0 q1) <| ov [500] (op_move q0) <| oe [500, 0] [] (GOk.on_eq hb5 rfl rfl rfl (op_fieldAddr_lbm (p := (b1 0)) (n := 1) 0 2 Tryd.underlying66 rfl Tryd.sizeOf22 (by decide) q0 rfl)) <| oe [501, 500, 2] [] (GOk.on_eq hb5 rfl rfl rfl (op_load_lb1 [one (intVP .u32 a_0.f_From), one (intVP .u32 a_0.f_Nonce)] [one (strVP a_0.f_Sender), one (strVP a_0.f_Receiver), one (strVP a_0.f_Body)] 1 Tryd.isAgg22 q0 rfl rfl)) <| oe [502, 1] [] (GOk.on_eq hb5 rfl rfl rfl (op_fieldAddr_lbm (p := (b1 1)) (n := 1) 0 2 Tryd.underlying66 rfl Tryd.sizeOf22 (by decide) q0 rfl)) <| oe [503, 500, 3] [] (GOk.on_eq hb5 rfl rfl rfl (op_load_lb1 [one (intVP .u32 a_1.f_From), one (intVP .u32 a_1.f_Nonce)] [one (strVP a_1.f_Sender), one (strVP a_1.f_Receiver), one (strVP a_1.f_Body)] 1 Tryd.isAgg22 q0 rfl rfl)) <| oe [504, 502, 500] [] (GOk.on_eq hb5 rfl rfl rfl (op_bin bin_eql q0 q1)) <| ov [505, 500] (op_pick_t hb5 q0 q1) <| ov [500] (op_move q0) <| oe [500, 0] [] (GOk.on_eq hb6 rfl rfl rfl (op_fieldAddr_lbm (p := (b1 0)) (n := 1) 0 3 Tryd.underlying66 rfl Tryd.sizeOf9 (by decide) q0 rfl)) <| oe [501, 500, 2] [] (GOk.on_eq hb6 rfl rfl rfl (op_load_lb1 [one (intVP .u32 a_0.f_From), one (intVP .u32 a_0.f_Nonce), one (intVP .u32 a_0.f_To)] [one (strVP a_0.f_Receiver), one (strVP a_0.f_Body)] 1 Tryd.isAgg9 q0 rfl rfl)) <| oe [502, 1] [] (GOk.on_eq hb6 rfl rfl rfl (op_fieldAddr_lbm (p := (b1 1)) (n := 1) 0 3 Tryd.underlying66 rfl Tryd.sizeOf9 (by decide) q0 rfl)) <| oe [503, 500, 3] [] (GOk.on_eq hb6 rfl rfl rfl (op_load_lb1 [one (intVP .u32 a_1.f_From), one (intVP .u32 a_1.f_Nonce), one (intVP .u32 a_1.f_To)] [one (strVP a_1.f_Receiver), one (strVP a_1.f_Body)] 1 Tryd.isAgg9 q0 rfl rfl)) <| oe [504, 502, 500] [] (GOk.on_eq hb6 rfl rfl rfl (op_bin bin_seql q0 q1)) <| ov [505, 500] (op_pick_t hb6 q0 q1) <| ov [500] (op_move q0) <| oe [500, 0] [] (GOk.on_eq hb7 rfl rfl rfl (op_fieldAddr_lbm (p := (b1 0)) (n := 1) 0 4 Tryd.underlying66 rfl Tryd.sizeOf9 (by decide) q0 rfl)) <| oe [501, 500, 2] [] (GOk.on_eq hb7 rfl rfl rfl (op_load_lb1 [one (intVP .u32 a_0.f_From), one (intVP .u32 a_0.f_Nonce), one (intVP .u32 a_0.f_To), one (strVP a_0.f_Sender)] [one (strVP a_0.f_Body)] 1 Tryd.isAgg9 q0 rfl rfl)) <| oe [502, 1] [] (GOk.on_eq hb7 rfl rfl rfl (op_fieldAddr_lbm (p := (b1 1)) (n := 1) 0 4 Tryd.underlying66 rfl Tryd.sizeOf9 (by decide) q0 rfl)) <| oe [503, 500, 3] [] (GOk.on_eq hb7 rfl rfl rfl (op_load_lb1 [one (intVP .u32 a_1.f_From), one (intVP .u32 a_1.f_Nonce), one (intVP .u32 a_1.f_To), one (strVP a_1.f_Sender)] [one (strVP a_1.f_Body)] 1 Tryd.isAgg9 q0 rfl rfl)) <| oe [504, 502, 500] [] (GOk.on_eq hb7 rfl rfl rfl (op_bin bin_seql q0 q1)) <| ov [505, 500] (op_pick_t hb7 q0 q1) <| ov [500] (op_move q0) <| oe [500] [] (GOk.off_v (want := true) hb8 rfl rfl rfl rfl) <| oe [501] [] (GOk.off_v (want := true) hb8 rfl rfl rfl rfl) <| oe [502] [] (GOk.off_v (want := true) hb8 rfl rfl rfl rfl) <| oe [503] [] (GOk.off_v (want := true) hb8 rfl rfl rfl rfl) <| oe [504] [] (GOk.off_v (want := true) hb8 rfl rfl rfl rfl) <| ov [505] (op_pick_f hb8 q0 qb) <| ov [500] (op_assign q0) .nil) fun _ a w h => ?_
              exact ⟨false, hF, h.sub [0] (by rfl)⟩
          · replace hF := ff_of hb7 hF
            refine reg mixed hn hG h [500] (ov [0] (op_fieldAddr_lbm (p := (b1 0)) (n := 1) 0 0 Tryd.underlying66 rfl Tryd.sizeOf22 (by decide) q0 rfl) <| ov [500, 2] (op_load_lb1 [] [one (intVP .u32 a_0.f_Nonce), one (intVP .u32 a_0.f_To), one (strVP a_0.f_Sender), one (strVP a_0.f_Receiver), one (strVP a_0.f_Body)] 1 Tryd.isAgg22 q0 rfl rfl) <| ov [1] (op_fieldAddr_lbm (p := (b1 1)) (n := 1) 0 0 Tryd.underlying66 rfl Tryd.sizeOf22 (by decide) q0 rfl) <| ov [500, 3] (op_load_lb1 [] [one (intVP .u32 a_1.f_Nonce), one (intVP .u32 a_1.f_To), one (strVP a_1.f_Sender), one (strVP a_1.f_Receiver), one (strVP a_1.f_Body)] 1 Tryd.isAgg22 q0 rfl rfl) <| ov [502, 500] (op_bin bin_eql q0 q1) <| ov [500] (op_move q0) <| oe [500, 0] [] (GOk.on_eq hb4 rfl rfl rfl (op_fieldAddr_lbm (p := (b1 0)) (n := 1) 0 1 Tryd.underlying66 rfl Tryd.sizeOf22 (by decide) q0 rfl)) <| oe [501, 500, 2] [] (GOk.on_eq hb4 rfl rfl rfl (op_load_lb1 [one (intVP .u32 a_0.f_From)] [one (intVP .u32 a_0.f_To), one (strVP a_0.f_Sender), one (strVP a_0.f_Receiver), one (strVP a_0.f_Body)] 1 Tryd.isAgg22 q0 rfl rfl)) <| oe [502, 1] [] (GOk.on_eq hb4 rfl rfl rfl (op_fieldAddr_lbm (p := (b1 1)) (n := 1) 0 1 Tryd.underlying66 rfl Tryd.sizeOf22 (by decide) q0 rfl)) <| oe [503, 500, 3] [] (GOk.on_eq hb4 rfl rfl rfl (op_load_lb1 [one (intVP .u32 a_1.f_From)] [one (intVP .u32 a_1.f_To), one (strVP a_1.f_Sender), one (strVP a_1.f_Receiver), one (strVP a_1.f_Body)] 1 Tryd.isAgg22 q0 rfl rfl)) <| oe [504, 502, 500] [] (GOk.on_eq hb4 rfl rfl rfl (op_bin bin_eql q0 q1)) <| ov [505, 500] (op_pick_t hb4 q0 q1) <| ov [500] (op_move q0) <| oe [500, 0] [] (GOk.on_eq hb5 rfl rfl rfl (op_fieldAddr_lbm (p := (b1 0)) (n := 1) 0 2 Tryd.underlying66 rfl Tryd.sizeOf22 (by decide) q0 rfl)) <| oe [501, 500, 2] [] (GOk.on_eq hb5 rfl rfl rfl (op_load_lb1 [one (intVP .u32 a_0.f_From), one (intVP .u32 a_0.f_Nonce)] [one (strVP a_0.f_Sender), one (strVP a_0.f_Receiver), one (strVP a_0.f_Body)] 1 Tryd.isAgg22 q0 rfl rfl)) <| oe [502, 1] [] (GOk.on_eq hb5 rfl rfl rfl (op_fieldAddr_lbm (p := (b1 1)) (n := 1) 0 2 Tryd.underlying66 rfl Tryd.sizeOf22 (by decide) q0 rfl)) <| oe [503, 500, 3] [] (GOk.on_eq hb5 rfl rfl rfl (op_load_lb1 [one (intVP .u32 a_1.f_From), one (intVP .u32 a_1.f_Nonce)] [one (strVP a_1.f_Sender), one (strVP a_1.f_Receiver), one (strVP a_1.f_Body)] 1 Tryd.isAgg22 q0 rfl rfl)) <| oe [504, 502, 500] [] (GOk.on_eq hb5 rfl rfl rfl (op_bin bin_eql q0 q1)) <| ov [505, 500] (op_pick_t hb5 q0 q1) <| ov [500] (op_move q0) <| oe [500, 0] [] (GOk.on_eq hb6 rfl rfl rfl (op_fieldAddr_lbm (p := (b1 0)) (n := 1) 0 3 Tryd.underlying66 rfl Tryd.sizeOf9 (by decide) q0 rfl)) <| oe [501, 500, 2] [] (GOk.on_eq hb6 rfl rfl rfl (op_load_lb1 [one (intVP .u32 a_0.f_From), one (intVP .u32 a_0.f_Nonce), one (intVP .u32 a_0.f_To)] [one (strVP a_0.f_Receiver), one (strVP a_0.f_Body)] 1 Tryd.isAgg9 q0 rfl rfl)) <| oe [502, 1] [] (GOk.on_eq hb6 rfl rfl rfl (op_fieldAddr_lbm (p := (b1 1)) (n := 1) 0 3 Tryd.underlying66 rfl Tryd.sizeOf9 (by decide) q0 rfl)) <| oe [503, 500, 3] [] (GOk.on_eq hb6 rfl rfl rfl (op_load_lb1 [one (intVP .u32 a_1.f_From), one (intVP .u32 a_1.f_Nonce), one (intVP .u32 a_1.f_To)] [one (strVP a_1.f_Receiver), one (strVP a_1.f_Body)] 1 Tryd.isAgg9 q0 rfl rfl)) <| oe [504, 502, 500] [] (GOk.on_eq hb6 rfl rfl rfl (op_bin bin_seql q0 q1)) <| ov [505, 500] (op_pick_t hb6 q0 q1) <| ov [500] (op_move q0) <| oe [500] [] (GOk.off_v (want := true) hb7 rfl rfl rfl rfl) <| oe [501] [] (GOk.off_v (want := true) hb7 rfl rfl rfl rfl) <| oe [502] [] (GOk.off_v (want := true) hb7 rfl rfl rfl rfl) <| oe [503] [] (GOk.off_v (want := true) hb7 rfl rfl rfl rfl) <| oe [504] [] (GOk.off_v (want := true) hb7 rfl rfl rfl rfl) <| ov [505] (op_pick_f hb7 q0 qb) <| ov [500] (op_move q0) <| oe [500] [] (GOk.off_v (want := true) rfl rfl rfl rfl rfl) <| oe [501] [] (GOk.off_v (want := true) rfl rfl rfl rfl rfl) <| oe [502] [] (GOk.off_v (want := true) rfl rfl rfl rfl rfl) <| oe [503] [] (GOk.off_v (want := true) rfl rfl rfl rfl rfl) <| oe [504] [] (GOk.off_v (want := true) rfl rfl rfl rfl rfl) <| ov [505] (op_pick_f rfl q0 qb) <| ov [500] (op_assign q0) .nil) fun _ a w h => ?_
            exact ⟨false, hF, h.sub [0] (by rfl)⟩
        · replace hF := ff_of hb6 hF
          refine reg mixed hn hG h [500] (ov [0] (op_fieldAddr_lbm (p := (b1 0)) (n := 1) 0 0 Tryd.underlying66 rfl Tryd.sizeOf22 (by decide) q0 rfl) <| ov [500, 2] (op_load_lb1 [] [one (intVP .u32 a_0.f_Nonce), one (intVP .u32 a_0.f_To), one (strVP a_0.f_Sender), one (strVP a_0.f_Receiver), one (strVP a_0.f_Body)] 1 Tryd.isAgg22 q0 rfl rfl) <| ov [1] (op_fieldAddr_lbm (p := (b1 1)) (n := 1) 0 0 Tryd.underlying66 rfl Tryd.sizeOf22 (by decide) q0 rfl) <| ov [500, 3] (op_load_lb1 [] [one (intVP .u32 a_1.f_Nonce), one (intVP .u32 a_1.f_To), one (strVP a_1.f_Sender), one (strVP a_1.f_Receiver), one (strVP a_1.f_Body)] 1 Tryd.isAgg22 q0 rfl rfl) <| ov [502, 500] (op_bin bin_eql q0 q1) <| ov [500] (op_move q0) <| oe [500, 0] [] (GOk.on_eq hb4 rfl rfl rfl (op_fieldAddr_lbm (p := (b1 0)) (n := 1) 0 1 Tryd.underlying66 rfl Tryd.sizeOf22 (by decide) q0 rfl)) <| oe [501, 500, 2] [] (GOk.on_eq hb4 rfl rfl rfl (op_load_lb1 [one (intVP .u32 a_0.f_From)] [one (intVP .u32 a_0.f_To), one (strVP a_0.f_Sender), one (strVP a_0.f_Receiver), one (strVP a_0.f_Body)] 1 Tryd.isAgg22 q0 rfl rfl)) <| oe [502, 1] [] (GOk.on_eq hb4 rfl rfl rfl (op_fieldAddr_lbm (p := (b1 1)) (n := 1) 0 1 Tryd.underlying66 rfl Tryd.sizeOf22 (by decide) q0 rfl)) <| oe [503, 500, 3] [] (GOk.on_eq hb4 rfl rfl rfl (op_load_lb1 [one (intVP .u32 a_1.f_From)] [one (intVP .u32 a_1.f_To), one (strVP a_1.f_Sender), one (strVP a_1.f_Receiver), one (strVP a_1.f_Body)] 1 Tryd.isAgg22 q0 rfl rfl)) <| oe [504, 502, 500] [] (GOk.on_eq hb4 rfl rfl rfl (op_bin bin_eql q0 q1)) <| ov [505, 500] (op_pick_t hb4 q0 q1) <| ov [500] (op_move q0) <| oe [500, 0] [] (GOk.on_eq hb5 rfl rfl rfl (op_fieldAddr_lbm (p := (b1 0)) (n := 1) 0 2 Tryd.underlying66 rfl Tryd.sizeOf22 (by decide) q0 rfl)) <| oe [501, 500, 2] [] (GOk.on_eq hb5 rfl rfl rfl (op_load_lb1 [one (intVP .u32 a_0.f_From), one (intVP .u32 a_0.f_Nonce)] [one (strVP a_0.f_Sender), one (strVP a_0.f_Receiver), one (strVP a_0.f_Body)] 1 Tryd.isAgg22 q0 rfl rfl)) <| oe [502, 1] [] (GOk.on_eq hb5 rfl rfl rfl (op_fieldAddr_lbm (p := (b1 1)) (n := 1) 0 2 Tryd.underlying66 rfl Tryd.sizeOf22 (by decide) q0 rfl)) <| oe [503, 500, 3] [] (GOk.on_eq hb5 rfl rfl rfl (op_load_lb1 [one (intVP .u32 a_1.f_From), one (intVP .u32 a_1.f_Nonce)] [one (strVP a_1.f_Sender), one (strVP a_1.f_Receiver), one (strVP a_1.f_Body)] 1 Tryd.isAgg22 q0 rfl rfl)) <| oe [504, 502, 500] [] (GOk.on_eq hb5 rfl rfl rfl (op_bin bin_eql q0 q1)) <| ov [505, 500] (op_pick_t hb5 q0 q1) <| ov [500] (op_move q0) <| oe [500] [] (GOk.off_v (want := true) hb6 rfl rfl rfl rfl) <| oe [501] [] (GOk.off_v (want := true) hb6 rfl rfl rfl rfl) <| oe [502] [] (GOk.off_v (want := true) hb6 rfl rfl rfl rfl) <| oe [503] [] (GOk.off_v (want := true) hb6 rfl rfl rfl rfl) <| oe [504] [] (GOk.off_v (want := true) hb6 rfl rfl rfl rfl) <| ov [505] (op_pick_f hb6 q0 qb) <| ov [500] (op_move q0) <| oe [500] [] (GOk.off_v (want := true) rfl rfl rfl rfl rfl) <| oe [501] [] (GOk.off_v (want := true) rfl rfl rfl rfl rfl) <| oe [502] [] (GOk.off_v (want := true) rfl rfl rfl rfl rfl) <| oe [503] [] (GOk.off_v (want := true) rfl rfl rfl rfl rfl) <| oe [504] [] (GOk.off_v (want := true) rfl rfl rfl rfl rfl) <| ov [505] (op_pick_f rfl q0 qb) <| ov [500] (op_move q0) <| oe [500] [] (GOk.off_v (want := true) rfl rfl rfl rfl rfl) <| oe [501] [] (GOk.off_v (want := true) rfl rfl rfl rfl rfl) <| oe [502] [] (GOk.off_v (want := true) rfl rfl rfl rfl rfl) <| oe [503] [] (GOk.off_v (want := true) rfl rfl rfl rfl rfl) <| oe [504] [] (GOk.off_v (want := true) rfl rfl rfl rfl rfl) <| ov [505] (op_pick_f rfl q0 qb) <| ov [500] (op_assign q0) .nil) fun _ a w h => ?_
          exact ⟨false, hF, h.sub [0] (by rfl)⟩
      · replace hF := ff_of hb5 hF
        refine reg mixed hn hG h [500] (ov [0] (op_fieldAddr_lbm (p := (b1 0)) (n := 1) 0 0 Tryd.underlying66 rfl Tryd.sizeOf22 (by decide) q0 rfl) <| ov [500, 2] (op_load_lb1 [] [one (intVP .u32 a_0.f_Nonce), one (intVP .u32 a_0.f_To), one (strVP a_0.f_Sender), one (strVP a_0.f_Receiver), one (strVP a_0.f_Body)] 1 Tryd.isAgg22 q0 rfl rfl) <| ov [1] (op_fieldAddr_lbm (p := (b1 1)) (n := 1) 0 0 Tryd.underlying66 rfl Tryd.sizeOf22 (by decide) q0 rfl) <| ov [500, 3] (op_load_lb1 [] [one (intVP .u32 a_1.f_Nonce), one (intVP .u32 a_1.f_To), one (strVP a_1.f_Sender), one (strVP a_1.f_Receiver), one (strVP a_1.f_Body)] 1 Tryd.isAgg22 q0 rfl rfl) <| ov [502, 500] (op_bin bin_eql q0 q1) <| ov [500] (op_move q0) <| oe [500, 0] [] (GOk.on_eq hb4 rfl rfl rfl (op_fieldAddr_lbm (p := (b1 0)) (n := 1) 0 1 Tryd.underlying66 rfl Tryd.sizeOf22 (by decide) q0 rfl)) <| oe [501, 500, 2] [] (GOk.on_eq hb4 rfl rfl rfl (op_load_lb1 [one (intVP .u32 a_0.f_From)] [one (intVP .u32 a_0.f_To), one (strVP a_0.f_Sender), one (strVP a_0.f_Receiver), one (strVP a_0.f_Body)] 1 Tryd.isAgg22 q0 rfl rfl)) <| oe [502, 1] [] (GOk.on_eq hb4 rfl rfl rfl (op_fieldAddr_lbm (p := (b1 1)) (n := 1) 0 1 Tryd.underlying66 rfl Tryd.sizeOf22 (by decide) q0 rfl)) <| oe [503, 500, 3] [] (GOk.on_eq hb4 rfl rfl rfl (op_load_lb1 [one (intVP .u32 a_1.f_From)] [one (intVP .u32 a_1.f_To), one (strVP a_1.f_Sender), one (strVP a_1.f_Receiver), one (strVP a_1.f_Body)] 1 Tryd.isAgg22 q0 rfl rfl)) <| oe [504, 502, 500] [] (GOk.on_eq hb4 rfl rfl rfl (op_bin bin_eql q0 q1)) <| ov [505, 500] (op_pick_t hb4 q0 q1) <| ov [500] (op_move q0) <| oe [500] [] (GOk.off_v (want := true) hb5 rfl rfl rfl rfl) <| oe [501] [] (GOk.off_v (want := true) hb5 rfl rfl rfl rfl) <| oe [502] [] (GOk.off_v (want := true) hb5 rfl rfl rfl rfl) <| oe [503] [] (GOk.off_v (want := true) hb5 rfl rfl rfl rfl) <| oe [504] [] (GOk.off_v (want := true) hb5 rfl rfl rfl rfl) <| ov [505] (op_pick_f hb5 q0 qb) <| ov [500] (op_move q0) <| oe [500] [] (GOk.off_v (want := true) rfl rfl rfl rfl rfl) <| oe [501] [] (GOk.off_v (want := true) rfl rfl rfl rfl rfl) <| oe [502] [] (GOk.off_v (want := true) rfl rfl rfl rfl rfl) <| oe [503] [] (GOk.off_v (want := true) rfl rfl rfl rfl rfl) <| oe [504] [] (GOk.off_v (want := true) rfl rfl rfl rfl rfl) <| ov [505] (op_pick_f rfl q0 qb) <| ov [500] (op_move q0) <| oe [500] [] (GOk.off_v (want := true) rfl rfl rfl rfl rfl) <| oe [501] [] (GOk.off_v (want := true) rfl rfl rfl rfl rfl) <| oe [502] [] (GOk.off_v (want := true) rfl rfl rfl rfl rfl) <| oe [503] [] (GOk.off_v (want := true) rfl rfl rfl rfl rfl) <| oe [504] [] (GOk.off_v (want := true) rfl rfl rfl rfl rfl) <| ov [505] (op_pick_f rfl q0 qb) <| ov [500] (op_move q0) <| oe [500] [] (GOk.off_v (want := true) rfl rfl rfl rfl rfl) <| oe [501] [] (GOk.off_v (want := true) rfl rfl rfl rfl rfl) <| oe [502] [] (GOk.off_v (want := true) rfl rfl rfl rfl rfl) <| oe [503] [] (GOk.off_v (want := true) rfl rfl rfl rfl rfl) <| oe [504] [] (GOk.off_v (want := true) rfl rfl rfl rfl rfl) <| ov [505] (op_pick_f rfl q0 qb) <| ov [500] (op_assign q0) .nil) fun _ a w h => ?_
        exact ⟨false, hF, h.sub [0] (by rfl)⟩
    · replace hF := ff_of hb4 hF
      refine reg mixed hn hG h [500] (ov [0] (op_fieldAddr_lbm (p := (b1 0)) (n := 1) 0 0 Tryd.underlying66 rfl Tryd.sizeOf22 (by decide) q0 rfl) <| ov [500, 2] (op_load_lb1 [] [one (intVP .u32 a_0.f_Nonce), one (intVP .u32 a_0.f_To), one (strVP a_0.f_Sender), one (strVP a_0.f_Receiver), one (strVP a_0.f_Body)] 1 Tryd.isAgg22 q0 rfl rfl) <| ov [1] (op_fieldAddr_lbm (p := (b1 1)) (n := 1) 0 0 Tryd.underlying66 rfl Tryd.sizeOf22 (by decide) q0 rfl) <| ov [500, 3] (op_load_lb1 [] [one (intVP .u32 a_1.f_Nonce), one (intVP .u32 a_1.f_To), one (strVP a_1.f_Sender), one (strVP a_1.f_Receiver), one (strVP a_1.f_Body)] 1 Tryd.isAgg22 q0 rfl rfl) <| ov [502, 500] (op_bin bin_eql q0 q1) <| ov [500] (op_move q0) <| oe [500] [] (GOk.off_v (want := true) hb4 rfl rfl rfl rfl) <| oe [501] [] (GOk.off_v (want := true) hb4 rfl rfl rfl rfl) <| oe [502] [] (GOk.off_v (want := true) hb4 rfl rfl rfl rfl) <| oe [503] [] (GOk.off_v (want := true) hb4 rfl rfl rfl rfl) <| oe [504] [] (GOk.off_v (want := true) hb4 rfl rfl rfl rfl) <| ov [505] (op_pick_f hb4 q0 qb) <| ov [500] (op_move q0) <| oe [500] [] (GOk.off_v (want := true) rfl rfl rfl rfl rfl) <| oe [501] [] (GOk.off_v (want := true) rfl rfl rfl rfl rfl) <| oe [502] [] (GOk.off_v (want := true) rfl rfl rfl rfl rfl) <| oe [503] [] (GOk.off_v (want := true) rfl rfl rfl rfl rfl) <| oe [504] [] (GOk.off_v (want := true) rfl rfl rfl rfl rfl) <| ov [505] (op_pick_f rfl q0 qb) <| ov [500] (op_move q0) <| oe [500] [] (GOk.off_v (want := true) rfl rfl rfl rfl rfl) <| oe [501] [] (GOk.off_v (want := true) rfl rfl rfl rfl rfl) <| oe [502] [] (GOk.off_v (want := true) rfl rfl rfl rfl rfl) <| oe [503] [] (GOk.off_v (want := true) rfl rfl rfl rfl rfl) <| oe [504] [] (GOk.off_v (want := true) rfl rfl rfl rfl rfl) <| ov [505] (op_pick_f rfl q0 qb) <| ov [500] (op_move q0) <| oe [500] [] (GOk.off_v (want := true) rfl rfl rfl rfl rfl) <| oe [501] [] (GOk.off_v (want := true) rfl rfl rfl rfl rfl) <| oe [502] [] (GOk.off_v (want := true) rfl rfl rfl rfl rfl) <| oe [503] [] (GOk.off_v (want := true) rfl rfl rfl rfl rfl) <| oe [504] [] (GOk.off_v (want := true) rfl rfl rfl rfl rfl) <| ov [505] (op_pick_f rfl q0 qb) <| ov [500] (op_move q0) <| oe [500] [] (GOk.off_v (want := true) rfl rfl rfl rfl rfl) <| oe [501] [] (GOk.off_v (want := true) rfl rfl rfl rfl rfl) <| oe [502] [] (GOk.off_v (want := true) rfl rfl rfl rfl rfl) <| oe [503] [] (GOk.off_v (want := true) rfl rfl rfl rfl rfl) <| oe [504] [] (GOk.off_v (want := true) rfl rfl rfl rfl rfl) <| ov [505] (op_pick_f rfl q0 qb) <| ov [500] (op_assign q0) .nil) fun _ a w h => ?_
      exact ⟨false, hF, h.sub [0] (by rfl)⟩
  · clear h hF
    rintro a w ⟨x3, hF, h⟩
    unfold ref09_Same.j1 at hF
    show Code.wp Tryd.prog _ _ a w
    refine wp_ret ?_
    obtain rfl := Option.some.inj hF
    exact ⟨.inl rfl, ret1 h Tryd.results43 (r_tmp 0 rfl) [] [] rfl rfl rfl⟩

def ref28_Foreign.j1 (x39 : Int) (x51 : Bool) : Option (Flow Int (Bool × Int)) := some (.cont (x51, IntKind.wrap .i64 (x39 + 1)))
def ref28_Foreign.b2 (a_0 : List (S_api_Letter)) (a_1 : List (S_api_Letter)) (x16 : Int) (x38 : Bool) (x39 : Int) : Option (Flow Int (Bool × Int)) := (if (decide (x39 < (a_0.length : Int))) = true then (if x38 = true then ref28_Foreign.j1 x39 true else (if (0 : Int) ≤ x16 ∧ x16 < a_1.length then (if (0 : Int) ≤ x39 ∧ x39 < a_0.length then ((ref09_Same (a_1.getD x16.toNat default) (a_0.getD x39.toNat default)).bind fun r50 => ref28_Foreign.j1 x39 r50) else none) else none)) else some (.brk (x38, x39)))
def ref28_Foreign.b1 (a_0 : List (S_api_Letter)) (a_1 : List (S_api_Letter)) (x16 : Int) : Option (Flow Int Int) := (if (decide (x16 < (a_1.length : Int))) = true then ((loopN (fun s : Bool × Int => ref28_Foreign.b2 a_0 a_1 x16 s.1 s.2) (((a_0.length : Int) - 0 : Int).toNat + 2) (false, 0)).bind fun cr => match cr with | .ret r => some (.ret r) | .next (y57, y58) => (if (!y57) = true then some (.ret x16) else some (.cont (IntKind.wrap .i64 (x16 + 1))))) else some (.brk x16))
def ref28_Foreign (a_0 : List (S_api_Letter)) (a_1 : List (S_api_Letter)) : Option Int := ((loopN (fun s : Int => ref28_Foreign.b1 a_0 a_1 s) (((a_1.length : Int) - 0 : Int).toNat + 2) 0).bind fun cr => match cr with | .ret r => some r | .next y64 => some (-1 : Int))
theorem ref28_Foreign_ok {a_0 : List (S_api_Letter)} {a_1 : List (S_api_Letter)} {r : Int} (hF : ref28_Foreign a_0 a_1 = some r) : CallOk Tryd.prog KG 19 [(slVP S_api_Letter.ck a_0), (slVP S_api_Letter.ck a_1)] [] (fun _ => []) (intVP .i64 r) := by
  refine CallOk.intro 35 Tryd.func19 rfl Tryd.ntmps19 (Nat.le_of_ble_eq_true rfl) ?_
  intro c a w hG hn h
  unfold ref28_Foreign at hF
  change SatL c [.slot 0 (slVP S_api_Letter.ck a_0), .slot 1 (slVP S_api_Letter.ck a_1)] a w at h
  refine regS mixed hn hG h [0, 1] (ov [] (op_assign qi) .nil) fun _ a w h => ?_
  refine wp_seq ?_
  refine regS mixed hn hG h [0, 1, 501, 500] (ov [1] (op_move q0) <| ov [500] (op_len_sl Tryd.underlying63 q0) <| ov [] (op_move qi) .nil) fun _ a w h => ?_
  refine wp_block ?_
  obtain ⟨cr60, hl61, hF⟩ := bind_some hF
  refine wp_mono (wp_loopN (R := Int) (S := Int) (fun s a w => SatL c [.slot 0 (slVP S_api_Letter.ck a_0), .slot 1 (slVP S_api_Letter.ck a_1), .slot 9 (intVP .i64 (a_1.length : Int)), .slot 10 (intVP .i64 s)] a w) (fun res e a w => match res with | .next s => e = .exit 0 ∧ SatL c [] a w | .ret r => e = .ret ∧ RetOk Tryd.prog Tryd.f19 c (intVP .i64 r) (fun _ => []) a w) ?_ _ 0 _ _ _ (h.sub [0, 1, 2, 3] (by rfl)) hl61) ?_
  · clear hl61 hF h
    intro x16 a w o h hF
    change ref28_Foreign.b1 a_0 a_1 x16 = some o at hF
    unfold ref28_Foreign.b1 at hF
    change SatL c [.slot 0 (slVP S_api_Letter.ck a_0), .slot 1 (slVP S_api_Letter.ck a_1), .slot 9 (intVP .i64 (a_1.length : Int)), .slot 10 (intVP .i64 x16)] a w at h
    refine regS mixed hn hG h [0, 1, 2, 3, 500] (ov [3, 2] (op_bin bin_lss q0 q1) .nil) fun _ a w h => ?_
    refine wp_seq ?_
    refine cnd h hF 4 [0, 1, 2, 3] [0, 1, 2, 3] (fun hb33 hF h => ?_) (fun hb33 hF h => ?_)
    · refine wp_skip ?_
      show Code.wp Tryd.prog _ _ a w
      refine wp_seq ?_
      refine wp_block ?_
      refine regS mixed hn hG h [0, 1, 500, 2, 3] (ov [3] (op_move q0) <| ov [500] (op_assign q0) .nil) fun _ a w h => ?_
      refine regS mixed hn hG h [0, 1, 2, 500, 3, 4] (ov [] (op_assign qb) .nil) fun _ a w h => ?_
      refine wp_seq ?_
      refine regS mixed hn hG h [0, 1, 2, 3, 4, 5, 501, 500] (ov [0] (op_move q0) <| ov [500] (op_len_sl Tryd.underlying63 q0) <| ov [] (op_move qi) .nil) fun _ a w h => ?_
      refine wp_block ?_
      obtain ⟨cr53, hl54, hF⟩ := bind_some hF
      refine wp_mono (wp_loopN (R := Int) (S := Bool × Int) (fun s a w => SatL c [.slot 0 (slVP S_api_Letter.ck a_0), .slot 1 (slVP S_api_Letter.ck a_1), .slot 5 (intVP .i64 x16), .slot 6 (boolVP s.1), .slot 9 (intVP .i64 (a_1.length : Int)), .slot 10 (intVP .i64 x16), .slot 14 (intVP .i64 (a_0.length : Int)), .slot 15 (intVP .i64 s.2)] a w) (fun res e a w => match res with | .next s => e = .exit 2 ∧ SatL c [.slot 0 (slVP S_api_Letter.ck a_0), .slot 1 (slVP S_api_Letter.ck a_1), .slot 5 (intVP .i64 x16), .slot 6 (boolVP s.1), .slot 9 (intVP .i64 (a_1.length : Int)), .slot 10 (intVP .i64 x16)] a w | .ret r => e = .ret ∧ RetOk Tryd.prog Tryd.f19 c (intVP .i64 r) (fun _ => []) a w) ?_ _ (false, 0) _ _ _ (h.sub [0, 1, 2, 3, 4, 5, 6, 7] (by rfl)) hl54) ?_
      · clear hl54 hF h
        intro s a w o h hF
        obtain ⟨x38, x39⟩ := s
        change ref28_Foreign.b2 a_0 a_1 x16 x38 x39 = some o at hF
        unfold ref28_Foreign.b2 at hF
        change SatL c [.slot 0 (slVP S_api_Letter.ck a_0), .slot 1 (slVP S_api_Letter.ck a_1), .slot 5 (intVP .i64 x16), .slot 6 (boolVP x38), .slot 9 (intVP .i64 (a_1.length : Int)), .slot 10 (intVP .i64 x16), .slot 14 (intVP .i64 (a_0.length : Int)), .slot 15 (intVP .i64 x39)] a w at h
        refine regS mixed hn hG h [0, 1, 2, 3, 4, 5, 6, 7, 500] (ov [7, 6] (op_bin bin_lss q0 q1) .nil) fun _ a w h => ?_
        refine wp_seq ?_
        refine cnd h hF 8 [0, 1, 2, 3, 4, 5, 6, 7] [0, 1, 2, 3, 4, 5, 6, 7] (fun hb47 hF h => ?_) (fun hb47 hF h => ?_)
        · refine wp_skip ?_
          show Code.wp Tryd.prog _ _ a w
          refine wp_seq ?_
          refine wp_block ?_
          refine regS mixed hn hG h [0, 1, 2, 3, 500, 4, 5, 6, 7] (ov [7] (op_move q0) <| ov [500] (op_assign q0) .nil) fun _ a w h => ?_
          refine wp_cut (fun a w => ∃ (x51 : Bool), ref28_Foreign.j1 x39 x51 = some o ∧ SatL c [.slot 0 (slVP S_api_Letter.ck a_0), .slot 1 (slVP S_api_Letter.ck a_1), .slot 5 (intVP .i64 x16), .slot 6 (boolVP x51), .slot 9 (intVP .i64 (a_1.length : Int)), .slot 10 (intVP .i64 x16), .slot 14 (intVP .i64 (a_0.length : Int)), .slot 15 (intVP .i64 x39)] a w) ?_ ?_
          · rcases Bool.eq_false_or_eq_true x38 with hb52 | hb52
            · replace hF := tt_of hb52 hF
              refine reg mixed hn hG h [0, 1, 2, 500, 5, 6, 7, 8] (ov [3] (op_move q0) <| ov [500] (op_move q0) <| oe [500] [] (GOk.off_v (want := false) hb52 rfl rfl rfl rfl) <| oe [501] [] (GOk.off_v (want := false) hb52 rfl rfl rfl rfl) <| oe [502] [] (GOk.off_v (want := false) hb52 rfl rfl rfl rfl) <| oe [503] [] (GOk.off_v (want := false) hb52 rfl rfl rfl rfl) <| oe [504] [] (GOk.off_v (want := false) hb52 rfl rfl rfl rfl) <| oe [505] [] (GOk.off_v (want := false) hb52 rfl rfl rfl rfl) <| oe [506] [] (GOk.off_v (want := false) hb52 rfl rfl rfl rfl) <| oe [507] [] (GOk.off_v (want := false) hb52 rfl rfl rfl rfl) <| oe [508] [] (GOk.off_v (want := false) hb52 rfl rfl rfl rfl) <| ov [509] (op_pick_t hb52 q0 qb) <| od [500] 3 (op_assign q0) .nil) fun _ a w h => ?_
              exact ⟨true, hF, h.sub [0, 1, 2, 3, 4, 5, 6, 7] (by rfl)⟩
            · replace hF := ff_of hb52 hF
              obtain ⟨hv48, hF⟩ := ite_some hF
              obtain ⟨hv49, hF⟩ := ite_some hF
              obtain ⟨r50, hr50, hF⟩ := bind_some hF
              refine reg mixed hn hG h [0, 1, 2, 500, 5, 6, 7, 8] (ov [3] (op_move q0) <| ov [500] (op_move q0) <| oe [500, 1] [] (GOk.on_eq hb52 rfl rfl rfl (op_move q0)) <| oe [501, 2] [] (GOk.on_eq hb52 rfl rfl rfl (op_move q0)) <| oe [502, 501, 500] [] (GOk.on_eq hb52 rfl rfl rfl (op_indexAddr_sl Tryd.underlying63 Tryd.sizeOf66 S_api_Letter.lens q0 q1 hv48)) <| oe [503, 500] [] (GOk.on_eq hb52 rfl rfl rfl (op_load_pp [one (intVP .u32 ((a_1.getD x16.toNat default).f_From)), one (intVP .u32 ((a_1.getD x16.toNat default).f_Nonce)), one (intVP .u32 ((a_1.getD x16.toNat default).f_To)), one (strVP ((a_1.getD x16.toNat default).f_Sender)), one (strVP ((a_1.getD x16.toNat default).f_Receiver)), one (strVP ((a_1.getD x16.toNat default).f_Body))] [] Tryd.isAgg66 Tryd.sizeOf66 q0 rfl)) <| oe [504, 0] [] (GOk.on_eq hb52 rfl rfl rfl (op_move q0)) <| oe [505, 4] [] (GOk.on_eq hb52 rfl rfl rfl (op_move q0)) <| oe [506, 501, 500] [] (GOk.on_eq hb52 rfl rfl rfl (op_indexAddr_sl Tryd.underlying63 Tryd.sizeOf66 S_api_Letter.lens q0 q1 hv49)) <| oe [507, 500] [] (GOk.on_eq hb52 rfl rfl rfl (op_load_pp [one (intVP .u32 ((a_0.getD x39.toNat default).f_From)), one (intVP .u32 ((a_0.getD x39.toNat default).f_Nonce)), one (intVP .u32 ((a_0.getD x39.toNat default).f_To)), one (strVP ((a_0.getD x39.toNat default).f_Sender)), one (strVP ((a_0.getD x39.toNat default).f_Receiver)), one (strVP ((a_0.getD x39.toNat default).f_Body))] [] Tryd.isAgg66 Tryd.sizeOf66 q0 rfl)) <| oe [508, 504, 500] [] (GOk.on_eq hb52 rfl rfl rfl (op_call Tryd.call43 (ref09_Same_ok hr50) ⟨q0, q1, trivial⟩)) <| ov [509, 500] (op_pick_f hb52 q0 q1) <| od [500] 3 (op_assign q0) .nil) fun _ a w h => ?_
              exact ⟨r50, hF, h.sub [0, 1, 2, 3, 4, 5, 6, 7] (by rfl)⟩
          · clear h hF
            rintro a w ⟨x51, hF, h⟩
            unfold ref28_Foreign.j1 at hF
            show Code.wp Tryd.prog _ _ a w
            refine reg mixed hn hG h [0, 1, 2, 3, 4, 5, 6, 500] (ov [7] (op_bin bin_add q0 qi) <| od [500] 7 (op_move q0) .nil) fun _ a w h => ?_
            obtain rfl := Option.some.inj hF
            exact ⟨rfl, h.sub [0, 1, 2, 3, 4, 5, 6, 7] (by rfl)⟩
        · refine wp_exit ?_
          obtain rfl := Option.some.inj hF
          exact ⟨exit_ne _, rfl, h.sub [0, 1, 2, 3, 4, 5] (by rfl)⟩
      · clear hl54
        intro e a w hq
        cases cr53 with
        | ret r55 =>
          obtain ⟨rfl, hq⟩ := hq
          obtain rfl := Option.some.inj hF
          exact ⟨ret_ne, rfl, hq⟩
        | next s56 =>
          obtain ⟨y57, y58⟩ := s56
          obtain ⟨rfl, h⟩ := hq
          change SatL c [.slot 0 (slVP S_api_Letter.ck a_0), .slot 1 (slVP S_api_Letter.ck a_1), .slot 5 (intVP .i64 x16), .slot 6 (boolVP y57), .slot 9 (intVP .i64 (a_1.length : Int)), .slot 10 (intVP .i64 x16)] a w at h
          refine inBlock_at ?_
          show Code.wp Tryd.prog _ _ a w
          refine regS mixed hn hG h [0, 1, 2, 4, 5, 500] (ov [3] (op_move q0) <| ov [500] (op_un (un_not _) q0) .nil) fun _ a w h => ?_
          refine cnd h hF 5 [2] [0, 1, 3, 4] (fun hb59 hF h => ?_) (fun hb59 hF h => ?_)
          · refine regS mixed hn hG h [500] (ov [0] (op_move q0) <| ov [500] (op_assign q0) .nil) fun _ a w h => ?_
            refine wp_ret ?_
            obtain rfl := Option.some.inj hF
            exact ⟨ret_ne, rfl, ret1 h Tryd.results19 (r_tmp 0 rfl) [] [] rfl rfl rfl⟩
          · refine wp_skip ?_
            show Code.wp Tryd.prog _ _ a w
            refine reg mixed hn hG h [0, 1, 2, 500] (ov [3] (op_bin bin_add q0 qi) <| od [500] 3 (op_move q0) .nil) fun _ a w h => ?_
            obtain rfl := Option.some.inj hF
            exact ⟨rfl, h.sub [0, 1, 2, 3] (by rfl)⟩
    · refine wp_exit ?_
      obtain rfl := Option.some.inj hF
      exact ⟨exit_ne _, rfl, h.sub [] (by rfl)⟩
  · clear hl61
    intro e a w hq
    cases cr60 with
    | ret r62 =>
      obtain ⟨rfl, hq⟩ := hq
      obtain rfl := Option.some.inj hF
      exact ⟨.inl rfl, hq⟩
    | next y64 =>
      obtain ⟨rfl, h⟩ := hq
      change SatL c [] a w at h
      refine inBlock_at ?_
      show Code.wp Tryd.prog _ _ a w
      refine regS mixed hn hG h [500] (ov [] (op_assign qi) .nil) fun _ a w h => ?_
      refine wp_ret ?_
      obtain rfl := Option.some.inj hF
      exact ⟨.inl rfl, ret1 h Tryd.results19 (r_tmp 0 rfl) [] [] rfl rfl rfl⟩

def audit_Again.b1 (a_0 : List (S_api_Letter)) (x7 : Int) : Option (Flow Int Int) := (if (decide (x7 < (a_0.length : Int))) = true then (if (0 : Int) ≤ x7 ∧ x7 < a_0.length then (if (0 : Int) ≤ 0 ∧ (0 : Int) ≤ x7 ∧ x7 ≤ a_0.length then ((audit_has ((a_0.take x7.toNat).drop (0 : Int).toNat) (a_0.getD x7.toNat default)).bind fun r19 => (if r19 = true then some (.ret x7) else some (.cont (IntKind.wrap .i64 (x7 + 1))))) else none) else none) else some (.brk x7))
def audit_Again (a_0 : List (S_api_Letter)) : Option Int := ((loopN (fun s : Int => audit_Again.b1 a_0 s) (((a_0.length : Int) - 0 : Int).toNat + 2) 0).bind fun cr => match cr with | .ret r => some r | .next y25 => some (-1 : Int))
theorem audit_Again_ok {a_0 : List (S_api_Letter)} {r : Int} (hF : audit_Again a_0 = some r) : CallOk Tryd.prog KG 20 [(slVP S_api_Letter.ck a_0)] [] (fun _ => []) (intVP .i64 r) := by
  refine CallOk.intro 19 Tryd.func20 rfl Tryd.ntmps20 (Nat.le_of_ble_eq_true rfl) ?_
  intro c a w hG hn h
  unfold audit_Again at hF
  change SatL c [.slot 0 (slVP S_api_Letter.ck a_0)] a w at h
  refine regS mixed hn hG h [0] (ov [] (op_assign qi) .nil) fun _ a w h => ?_
  refine wp_seq ?_
  refine regS mixed hn hG h [0, 502, 501, 500] (ov [0] (op_move q0) <| ov [500] (op_len_sl Tryd.underlying63 q0) <| ov [] (op_move qi) .nil) fun _ a w h => ?_
  refine wp_block ?_
  obtain ⟨cr21, hl22, hF⟩ := bind_some hF
  refine wp_mono (wp_loopN (R := Int) (S := Int) (fun s a w => SatL c [.slot 0 (slVP S_api_Letter.ck a_0), .slot 5 (slVP S_api_Letter.ck a_0), .slot 6 (intVP .i64 (a_0.length : Int)), .slot 7 (intVP .i64 s)] a w) (fun res e a w => match res with | .next s => e = .exit 0 ∧ SatL c [] a w | .ret r => e = .ret ∧ RetOk Tryd.prog Tryd.f20 c (intVP .i64 r) (fun _ => []) a w) ?_ _ 0 _ _ _ (h.sub [0, 1, 2, 3] (by rfl)) hl22) ?_
  · clear hl22 hF h
    intro x7 a w o h hF
    change audit_Again.b1 a_0 x7 = some o at hF
    unfold audit_Again.b1 at hF
    change SatL c [.slot 0 (slVP S_api_Letter.ck a_0), .slot 5 (slVP S_api_Letter.ck a_0), .slot 6 (intVP .i64 (a_0.length : Int)), .slot 7 (intVP .i64 x7)] a w at h
    refine regS mixed hn hG h [0, 1, 2, 3, 500] (ov [3, 2] (op_bin bin_lss q0 q1) .nil) fun _ a w h => ?_
    refine wp_seq ?_
    refine cnd h hF 4 [0, 1, 2, 3] [0, 1, 2, 3] (fun hb15 hF h => ?_) (fun hb15 hF h => ?_)
    · refine wp_skip ?_
      show Code.wp Tryd.prog _ _ a w
      refine wp_seq ?_
      refine wp_block ?_
      obtain ⟨hv16, hF⟩ := ite_some hF
      refine regS mixed hn hG h [0, 501, 503, 1, 2, 3, 500] (ov [3] (op_move q0) <| ov [1, 3] (op_indexAddr_sl Tryd.underlying63 Tryd.sizeOf66 S_api_Letter.lens q0 q1 hv16) <| ov [500] (op_load_pp [one (intVP .u32 ((a_0.getD x7.toNat default).f_From)), one (intVP .u32 ((a_0.getD x7.toNat default).f_Nonce)), one (intVP .u32 ((a_0.getD x7.toNat default).f_To)), one (strVP ((a_0.getD x7.toNat default).f_Sender)), one (strVP ((a_0.getD x7.toNat default).f_Receiver)), one (strVP ((a_0.getD x7.toNat default).f_Body))] [] Tryd.isAgg66 Tryd.sizeOf66 q0 rfl) <| ob [] (op_alloc Tryd.zeroValue66 z66) <| ov [504] (op_assign q0) <| og [502, 503] [501] [.res 3 100000 (fun v1_ _ => (lb (v1_) 66 [one (intVP .u32 ((a_0.getD x7.toNat default).f_From)), one (intVP .u32 ((a_0.getD x7.toNat default).f_Nonce)), one (intVP .u32 ((a_0.getD x7.toNat default).f_To)), one (strVP ((a_0.getD x7.toNat default).f_Sender)), one (strVP ((a_0.getD x7.toNat default).f_Receiver)), one (strVP ((a_0.getD x7.toNat default).f_Body))]))] (GOk.plain (op_store_w Tryd.sizeOf66 q0 q1 (cells_agg _)) rfl) .nil) fun b17 a w h => ?_
      obtain ⟨hv18, hF⟩ := ite_some hF
      obtain ⟨r19, hr19, hF⟩ := bind_some hF
      refine regS mixed hn hG h [0, 1, 3, 4, 5, 500] (ov [0] (op_move q0) <| ov [1] (op_move q0) <| ov [501, 500] (op_slice_sl (a := 0) (b := x7) Tryd.underlying63 Tryd.sizeOf66 S_api_Letter.lens q0 rfl ⟨_, q1⟩ hv18) <| ov [2, 6] (op_load_w 1 Tryd.isAgg66 Tryd.sizeOf66 q0) <| oc [501, 500] [] Tryd.call42 (audit_has_ok hr19) ⟨q0, q1, trivial⟩ .nil) fun _ a w h => ?_
      refine cnd h hF 5 [1] [0, 2, 3, 4] (fun hb20 hF h => ?_) (fun hb20 hF h => ?_)
      · refine regS mixed hn hG h [500] (ov [0] (op_move q0) <| ov [500] (op_assign q0) .nil) fun _ a w h => ?_
        refine wp_ret ?_
        obtain rfl := Option.some.inj hF
        exact ⟨ret_ne, rfl, ret1 h Tryd.results20 (r_tmp 0 rfl) [] [] rfl rfl rfl⟩
      · refine wp_skip ?_
        show Code.wp Tryd.prog _ _ a w
        refine reg mixed hn hG h [0, 1, 2, 500] (ov [3] (op_bin bin_add q0 qi) <| od [500] 3 (op_move q0) .nil) fun _ a w h => ?_
        obtain rfl := Option.some.inj hF
        exact ⟨rfl, h.sub [0, 1, 2, 3] (by rfl)⟩
    · refine wp_exit ?_
      obtain rfl := Option.some.inj hF
      exact ⟨exit_ne _, rfl, h.sub [] (by rfl)⟩
  · clear hl22
    intro e a w hq
    cases cr21 with
    | ret r23 =>
      obtain ⟨rfl, hq⟩ := hq
      obtain rfl := Option.some.inj hF
      exact ⟨.inl rfl, hq⟩
    | next y25 =>
      obtain ⟨rfl, h⟩ := hq
      change SatL c [] a w at h
      refine inBlock_at ?_
      show Code.wp Tryd.prog _ _ a w
      refine regS mixed hn hG h [500] (ov [] (op_assign qi) .nil) fun _ a w h => ?_
      refine wp_ret ?_
      obtain rfl := Option.some.inj hF
      exact ⟨.inl rfl, ret1 h Tryd.results20 (r_tmp 0 rfl) [] [] rfl rfl rfl⟩

def ref28_Again.b2 (a_0 : List (S_api_Letter)) (x13 : Int) (x34 : Int) : Option (Flow Int Int) := (if (decide (x34 < x13)) = true then (if (0 : Int) ≤ x13 ∧ x13 < a_0.length then (if (0 : Int) ≤ x34 ∧ x34 < a_0.length then ((ref09_Same (a_0.getD x13.toNat default) (a_0.getD x34.toNat default)).bind fun r44 => (if r44 = true then some (.ret x13) else some (.cont (IntKind.wrap .i64 (x34 + 1))))) else none) else none) else some (.brk x34))
def ref28_Again.b1 (a_0 : List (S_api_Letter)) (x13 : Int) : Option (Flow Int Int) := (if (decide (x13 < (a_0.length : Int))) = true then ((loopN (fun s : Int => ref28_Again.b2 a_0 x13 s) ((x13 - 0 : Int).toNat + 2) 0).bind fun cr => match cr with | .ret r => some (.ret r) | .next y50 => some (.cont (IntKind.wrap .i64 (x13 + 1)))) else some (.brk x13))
def ref28_Again (a_0 : List (S_api_Letter)) : Option Int := ((loopN (fun s : Int => ref28_Again.b1 a_0 s) (((a_0.length : Int) - 0 : Int).toNat + 2) 0).bind fun cr => match cr with | .ret r => some r | .next y55 => some (-1 : Int))
theorem ref28_Again_ok {a_0 : List (S_api_Letter)} {r : Int} (hF : ref28_Again a_0 = some r) : CallOk Tryd.prog KG 21 [(slVP S_api_Letter.ck a_0)] [] (fun _ => []) (intVP .i64 r) := by
  refine CallOk.intro 26 Tryd.func21 rfl Tryd.ntmps21 (Nat.le_of_ble_eq_true rfl) ?_
  intro c a w hG hn h
  unfold ref28_Again at hF
  change SatL c [.slot 0 (slVP S_api_Letter.ck a_0)] a w at h
  refine regS mixed hn hG h [0] (ov [] (op_assign qi) .nil) fun _ a w h => ?_
  refine wp_seq ?_
  refine regS mixed hn hG h [0, 501, 500] (ov [0] (op_move q0) <| ov [500] (op_len_sl Tryd.underlying63 q0) <| ov [] (op_move qi) .nil) fun _ a w h => ?_
  refine wp_block ?_
  obtain ⟨cr51, hl52, hF⟩ := bind_some hF
  refine wp_mono (wp_loopN (R := Int) (S := Int) (fun s a w => SatL c [.slot 0 (slVP S_api_Letter.ck a_0), .slot 6 (intVP .i64 (a_0.length : Int)), .slot 7 (intVP .i64 s)] a w) (fun res e a w => match res with | .next s => e = .exit 0 ∧ SatL c [] a w | .ret r => e = .ret ∧ RetOk Tryd.prog Tryd.f21 c (intVP .i64 r) (fun _ => []) a w) ?_ _ 0 _ _ _ (h.sub [0, 1, 2] (by rfl)) hl52) ?_
  · clear hl52 hF h
    intro x13 a w o h hF
    change ref28_Again.b1 a_0 x13 = some o at hF
    unfold ref28_Again.b1 at hF
    change SatL c [.slot 0 (slVP S_api_Letter.ck a_0), .slot 6 (intVP .i64 (a_0.length : Int)), .slot 7 (intVP .i64 x13)] a w at h
    refine regS mixed hn hG h [0, 1, 2, 500] (ov [2, 1] (op_bin bin_lss q0 q1) .nil) fun _ a w h => ?_
    refine wp_seq ?_
    refine cnd h hF 3 [0, 1, 2] [0, 1, 2] (fun hb28 hF h => ?_) (fun hb28 hF h => ?_)
    · refine wp_skip ?_
      show Code.wp Tryd.prog _ _ a w
      refine wp_seq ?_
      refine wp_block ?_
      refine regS mixed hn hG h [0, 500, 1, 2] (ov [2] (op_move q0) <| ov [500] (op_assign q0) .nil) fun _ a w h => ?_
      refine regS mixed hn hG h [0, 1, 500, 2, 3] (ov [] (op_assign qi) .nil) fun _ a w h => ?_
      refine wp_block ?_
      obtain ⟨cr46, hl47, hF⟩ := bind_some hF
      refine wp_mono (wp_loopN (R := Int) (S := Int) (fun s a w => SatL c [.slot 0 (slVP S_api_Letter.ck a_0), .slot 3 (intVP .i64 x13), .slot 4 (intVP .i64 s), .slot 6 (intVP .i64 (a_0.length : Int)), .slot 7 (intVP .i64 x13)] a w) (fun res e a w => match res with | .next s => e = .exit 2 ∧ SatL c [.slot 0 (slVP S_api_Letter.ck a_0), .slot 6 (intVP .i64 (a_0.length : Int)), .slot 7 (intVP .i64 x13)] a w | .ret r => e = .ret ∧ RetOk Tryd.prog Tryd.f21 c (intVP .i64 r) (fun _ => []) a w) ?_ _ 0 _ _ _ (h.sub [0, 1, 2, 3, 4] (by rfl)) hl47) ?_
      · clear hl47 hF h
        intro x34 a w o h hF
        change ref28_Again.b2 a_0 x13 x34 = some o at hF
        unfold ref28_Again.b2 at hF
        change SatL c [.slot 0 (slVP S_api_Letter.ck a_0), .slot 3 (intVP .i64 x13), .slot 4 (intVP .i64 x34), .slot 6 (intVP .i64 (a_0.length : Int)), .slot 7 (intVP .i64 x13)] a w at h
        refine wp_seq ?_
        refine regS mixed hn hG h [0, 1, 2, 3, 4, 500] (ov [2] (op_move q0) <| ov [1] (op_move q0) <| ov [501, 500] (op_bin bin_lss q0 q1) .nil) fun _ a w h => ?_
        refine cnd h hF 5 [0, 1, 2, 3, 4] [0, 1, 2, 3, 4] (fun hb41 hF h => ?_) (fun hb41 hF h => ?_)
        · refine wp_skip ?_
          show Code.wp Tryd.prog _ _ a w
          refine wp_seq ?_
          refine wp_block ?_
          obtain ⟨hv42, hF⟩ := ite_some hF
          obtain ⟨hv43, hF⟩ := ite_some hF
          obtain ⟨r44, hr44, hF⟩ := bind_some hF
          refine regS mixed hn hG h [0, 1, 2, 3, 4, 500] (ov [0] (op_move q0) <| ov [1] (op_move q0) <| ov [501, 500] (op_indexAddr_sl Tryd.underlying63 Tryd.sizeOf66 S_api_Letter.lens q0 q1 hv42) <| ov [500] (op_load_pp [one (intVP .u32 ((a_0.getD x13.toNat default).f_From)), one (intVP .u32 ((a_0.getD x13.toNat default).f_Nonce)), one (intVP .u32 ((a_0.getD x13.toNat default).f_To)), one (strVP ((a_0.getD x13.toNat default).f_Sender)), one (strVP ((a_0.getD x13.toNat default).f_Receiver)), one (strVP ((a_0.getD x13.toNat default).f_Body))] [] Tryd.isAgg66 Tryd.sizeOf66 q0 rfl) <| ov [0] (op_move q0) <| ov [2] (op_move q0) <| ov [501, 500] (op_indexAddr_sl Tryd.underlying63 Tryd.sizeOf66 S_api_Letter.lens q0 q1 hv43) <| ov [500] (op_load_pp [one (intVP .u32 ((a_0.getD x34.toNat default).f_From)), one (intVP .u32 ((a_0.getD x34.toNat default).f_Nonce)), one (intVP .u32 ((a_0.getD x34.toNat default).f_To)), one (strVP ((a_0.getD x34.toNat default).f_Sender)), one (strVP ((a_0.getD x34.toNat default).f_Receiver)), one (strVP ((a_0.getD x34.toNat default).f_Body))] [] Tryd.isAgg66 Tryd.sizeOf66 q0 rfl) <| oc [504, 500] [] Tryd.call43 (ref09_Same_ok hr44) ⟨q0, q1, trivial⟩ .nil) fun _ a w h => ?_
          refine cnd h hF 5 [1] [0, 1, 2, 3, 4] (fun hb45 hF h => ?_) (fun hb45 hF h => ?_)
          · refine regS mixed hn hG h [500] (ov [0] (op_move q0) <| ov [500] (op_assign q0) .nil) fun _ a w h => ?_
            refine wp_ret ?_
            obtain rfl := Option.some.inj hF
            exact ⟨ret_ne, rfl, ret1 h Tryd.results21 (r_tmp 0 rfl) [] [] rfl rfl rfl⟩
          · refine wp_skip ?_
            show Code.wp Tryd.prog _ _ a w
            refine reg mixed hn hG h [0, 1, 500, 3, 4] (ov [2] (op_move q0) <| ov [500] (op_bin bin_add q0 qi) <| od [500] 2 (op_assign q0) .nil) fun _ a w h => ?_
            obtain rfl := Option.some.inj hF
            exact ⟨rfl, h.sub [0, 1, 2, 3, 4] (by rfl)⟩
        · refine wp_exit ?_
          obtain rfl := Option.some.inj hF
          exact ⟨exit_ne _, rfl, h.sub [0, 3, 4] (by rfl)⟩
      · clear hl47
        intro e a w hq
        cases cr46 with
        | ret r48 =>
          obtain ⟨rfl, hq⟩ := hq
          obtain rfl := Option.some.inj hF
          exact ⟨ret_ne, rfl, hq⟩
        | next y50 =>
          obtain ⟨rfl, h⟩ := hq
          change SatL c [.slot 0 (slVP S_api_Letter.ck a_0), .slot 6 (intVP .i64 (a_0.length : Int)), .slot 7 (intVP .i64 x13)] a w at h
          refine inBlock_at ?_
          show Code.wp Tryd.prog _ _ a w
          refine reg mixed hn hG h [0, 1, 500] (ov [2] (op_bin bin_add q0 qi) <| od [500] 2 (op_move q0) .nil) fun _ a w h => ?_
          obtain rfl := Option.some.inj hF
          exact ⟨rfl, h.sub [0, 1, 2] (by rfl)⟩
    · refine wp_exit ?_
      obtain rfl := Option.some.inj hF
      exact ⟨exit_ne _, rfl, h.sub [] (by rfl)⟩
  · clear hl52
    intro e a w hq
    cases cr51 with
    | ret r53 =>
      obtain ⟨rfl, hq⟩ := hq
      obtain rfl := Option.some.inj hF
      exact ⟨.inl rfl, hq⟩
    | next y55 =>
      obtain ⟨rfl, h⟩ := hq
      change SatL c [] a w at h
      refine inBlock_at ?_
      show Code.wp Tryd.prog _ _ a w
      refine regS mixed hn hG h [500] (ov [] (op_assign qi) .nil) fun _ a w h => ?_
      refine wp_ret ?_
      obtain rfl := Option.some.inj hF
      exact ⟨.inl rfl, ret1 h Tryd.results21 (r_tmp 0 rfl) [] [] rfl rfl rfl⟩

def slices_IndexFunc_api_State.b1 (a_0 : List (S_api_State)) (a_1 : ((S_api_State)) → Option (Bool)) (x5 : Int) : Option (Flow Int Int) := (if (decide (x5 < (a_0.length : Int))) = true then (if (0 : Int) ≤ x5 ∧ x5 < a_0.length then ((a_1 (a_0.getD x5.toNat default)).bind fun r13 => (if r13 = true then some (.ret x5) else some (.cont (IntKind.wrap .i64 (x5 + 1))))) else none) else some (.brk x5))
def slices_IndexFunc_api_State (a_0 : List (S_api_State)) (a_1 : ((S_api_State)) → Option (Bool)) : Option Int := ((loopN (fun s : Int => slices_IndexFunc_api_State.b1 a_0 a_1 s) (((a_0.length : Int) - 0 : Int).toNat + 2) 0).bind fun cr => match cr with | .ret r => some r | .next y19 => some (-1 : Int))
theorem slices_IndexFunc_api_State_ok {a_0 : List (S_api_State)} {a_1 : ((S_api_State)) → Option (Bool)} {r : Int} (hF : slices_IndexFunc_api_State a_0 a_1 = some r) : CallOk Tryd.prog KG 80 [(slVP S_api_State.ck a_0), (fnVP Tryd.prog KG (fun x : S_api_State => [(aggVP [bytesCk 32 x.f_Leaf, one (intVP .i64 x.f_Status), bytesCk 32 x.f_Root])]) (fun r : Bool => (boolVP r)) a_1)] [] (fun _ => []) (intVP .i64 r) := by
  refine CallOk.intro 19 Tryd.func80 rfl Tryd.ntmps80 (Nat.le_of_ble_eq_true rfl) ?_
  intro c a w hG hn h
  unfold slices_IndexFunc_api_State at hF
  change SatL c [.slot 0 (slVP S_api_State.ck a_0), .slot 1 (fnVP Tryd.prog KG (fun x : S_api_State => [(aggVP [bytesCk 32 x.f_Leaf, one (intVP .i64 x.f_Status), bytesCk 32 x.f_Root])]) (fun r : Bool => (boolVP r)) a_1)] a w at h
  refine regS mixed hn hG h [0, 1] (ov [] (op_assign qi) .nil) fun _ a w h => ?_
  refine wp_seq ?_
  refine regS mixed hn hG h [0, 1, 501, 500] (ov [0] (op_move q0) <| ov [500] (op_len_sl Tryd.underlying42 q0) <| ov [] (op_move qi) .nil) fun _ a w h => ?_
  refine wp_block ?_
  obtain ⟨cr15, hl16, hF⟩ := bind_some hF
  refine wp_mono (wp_loopN (R := Int) (S := Int) (fun s a w => SatL c [.slot 0 (slVP S_api_State.ck a_0), .slot 1 (fnVP Tryd.prog KG (fun x : S_api_State => [(aggVP [bytesCk 32 x.f_Leaf, one (intVP .i64 x.f_Status), bytesCk 32 x.f_Root])]) (fun r : Bool => (boolVP r)) a_1), .slot 7 (intVP .i64 (a_0.length : Int)), .slot 8 (intVP .i64 s)] a w) (fun res e a w => match res with | .next s => e = .exit 0 ∧ SatL c [] a w | .ret r => e = .ret ∧ RetOk Tryd.prog Tryd.f80 c (intVP .i64 r) (fun _ => []) a w) ?_ _ 0 _ _ _ (h.sub [0, 1, 2, 3] (by rfl)) hl16) ?_
  · clear hl16 hF h
    intro x5 a w o h hF
    change slices_IndexFunc_api_State.b1 a_0 a_1 x5 = some o at hF
    unfold slices_IndexFunc_api_State.b1 at hF
    change SatL c [.slot 0 (slVP S_api_State.ck a_0), .slot 1 (fnVP Tryd.prog KG (fun x : S_api_State => [(aggVP [bytesCk 32 x.f_Leaf, one (intVP .i64 x.f_Status), bytesCk 32 x.f_Root])]) (fun r : Bool => (boolVP r)) a_1), .slot 7 (intVP .i64 (a_0.length : Int)), .slot 8 (intVP .i64 x5)] a w at h
    refine regS mixed hn hG h [0, 1, 2, 3, 500] (ov [3, 2] (op_bin bin_lss q0 q1) .nil) fun _ a w h => ?_
    refine wp_seq ?_
    refine cnd h hF 4 [0, 1, 2, 3] [0, 1, 2, 3] (fun hb11 hF h => ?_) (fun hb11 hF h => ?_)
    · refine wp_skip ?_
      show Code.wp Tryd.prog _ _ a w
      refine wp_seq ?_
      refine wp_block ?_
      refine regS mixed hn hG h [0, 1, 500, 2, 3] (ov [3] (op_move q0) <| ov [500] (op_assign q0) .nil) fun _ a w h => ?_
      obtain ⟨hv12, hF⟩ := ite_some hF
      obtain ⟨r13, hr13, hF⟩ := bind_some hF
      refine regS mixed hn hG h [0, 1, 2, 3, 4, 500] (ov [1] (op_move q0) <| ov [0] (op_move q0) <| ov [2] (op_move q0) <| ov [501, 500] (op_indexAddr_sl Tryd.underlying42 Tryd.sizeOf130 S_api_State.lens q0 q1 hv12) <| ov [500] (op_load_pp [bytesCk 32 ((a_0.getD x5.toNat default).f_Leaf), one (intVP .i64 ((a_0.getD x5.toNat default).f_Status)), bytesCk 32 ((a_0.getD x5.toNat default).f_Root)] [] Tryd.isAgg130 Tryd.sizeOf130 q0 rfl) <| ov [504, 500] (op_callfn (A := (fun x : S_api_State => [(aggVP [bytesCk 32 x.f_Leaf, one (intVP .i64 x.f_Status), bytesCk 32 x.f_Root])])) (B := (fun r : Bool => (boolVP r))) (g := a_1) (x := (a_0.getD x5.toNat default)) q0 ⟨q1, trivial⟩ hr13) .nil) fun _ a w h => ?_
      refine cnd h hF 5 [2] [0, 1, 3, 4] (fun hb14 hF h => ?_) (fun hb14 hF h => ?_)
      · refine regS mixed hn hG h [500] (ov [0] (op_move q0) <| ov [500] (op_assign q0) .nil) fun _ a w h => ?_
        refine wp_ret ?_
        obtain rfl := Option.some.inj hF
        exact ⟨ret_ne, rfl, ret1 h Tryd.results80 (r_tmp 0 rfl) [] [] rfl rfl rfl⟩
      · refine wp_skip ?_
        show Code.wp Tryd.prog _ _ a w
        refine reg mixed hn hG h [0, 1, 2, 500] (ov [3] (op_bin bin_add q0 qi) <| od [500] 3 (op_move q0) .nil) fun _ a w h => ?_
        obtain rfl := Option.some.inj hF
        exact ⟨rfl, h.sub [0, 1, 2, 3] (by rfl)⟩
    · refine wp_exit ?_
      obtain rfl := Option.some.inj hF
      exact ⟨exit_ne _, rfl, h.sub [] (by rfl)⟩
  · clear hl16
    intro e a w hq
    cases cr15 with
    | ret r17 =>
      obtain ⟨rfl, hq⟩ := hq
      obtain rfl := Option.some.inj hF
      exact ⟨.inl rfl, hq⟩
    | next y19 =>
      obtain ⟨rfl, h⟩ := hq
      change SatL c [] a w at h
      refine inBlock_at ?_
      show Code.wp Tryd.prog _ _ a w
      refine regS mixed hn hG h [500] (ov [] (op_assign qi) .nil) fun _ a w h => ?_
      refine wp_ret ?_
      obtain rfl := Option.some.inj hF
      exact ⟨.inl rfl, ret1 h Tryd.results80 (r_tmp 0 rfl) [] [] rfl rfl rfl⟩

def replica_state_1 (a_0 : S_api_State) (c_1 : List UInt8) : Option Bool := some (decide (a_0.f_Leaf = c_1))
theorem replica_state_1_ok {a_0 : S_api_State} {c_1 : List UInt8} {r : Bool} (hF : replica_state_1 a_0 c_1 = some r) : CallOk Tryd.prog KG 81 [(aggVP [bytesCk 32 a_0.f_Leaf, one (intVP .i64 a_0.f_Status), bytesCk 32 a_0.f_Root]), (ppVP [bytesCk 32 c_1])] [] (fun _ => []) (boolVP r) := by
  refine CallOk.intro 8 Tryd.func81 rfl Tryd.ntmps81 (Nat.le_of_ble_eq_true rfl) ?_
  intro c a w hG hn h
  unfold replica_state_1 at hF
  change SatL c [.slot 0 (aggVP [bytesCk 32 a_0.f_Leaf, one (intVP .i64 a_0.f_Status), bytesCk 32 a_0.f_Root]), .slot 1 (ppVP [bytesCk 32 c_1])] a w at h
  refine regS mixed hn hG h [1, 502, 501] (ob [0] (op_box q0 (cells_agg _)) <| ov [] (op_assign qb) .nil) fun b1 a w h => ?_
  refine regS mixed hn hG h [500] (ov [1] (op_fieldAddr_lbm (p := (b1 0)) (n := 32) 0 0 Tryd.underlying130 rfl Tryd.sizeOf33 (by decide) q0 rfl) <| ov [500, 2] (op_load_lb [] [bytesCk 32 a_0.f_Leaf] [one (intVP .i64 a_0.f_Status), bytesCk 32 a_0.f_Root] 1 Tryd.isAgg33 Tryd.sizeOf33 q0 rfl rfl rfl) <| ov [0] (op_load_pp [bytesCk 32 c_1] [] Tryd.isAgg33 Tryd.sizeOf33 q0 rfl) <| ov [501, 500] (op_bin (bin_aeql Tryd.underlying33 Tryd.underlying5 Tryd.type5 Tryd.sizeOf5 Tryd.isAgg5 Tryd.eqGuardType33) q0 q1) <| ov [500] (op_assign q0) .nil) fun _ a w h => ?_
  refine wp_ret ?_
  obtain rfl := Option.some.inj hF
  exact ⟨.inl rfl, ret1 h Tryd.results81 (r_tmp 0 rfl) [] [] rfl rfl rfl⟩

def replica_state (a_0 : S_api_Replica) (a_1 : List UInt8) : Option Int := ((slices_IndexFunc_api_State a_0.f_States (fun x : S_api_State => replica_state_1 x a_1)).bind fun r3 => some r3)
theorem replica_state_ok {a_0 : S_api_Replica} {a_1 : List UInt8} {r : Int} (hF : replica_state a_0 a_1 = some r) : CallOk Tryd.prog KG 67 [(aggVP [one (intVP .u32 a_0.f_Chain), one (intVP .u32 a_0.f_Here), bytesCk 32 a_0.f_Updater, one (slVP (dC 32) a_0.f_Watchers), one (intVP .u64 a_0.f_Window), bytesCk 32 a_0.f_Committed, one (slVP S_api_Timed.ck a_0.f_Roots), one (slVP S_api_State.ck a_0.f_States), one (boolVP a_0.f_Failed), one (boolVP a_0.f_Cut)]), (aggVP [bytesCk 32 a_1])] [] (fun _ => []) (intVP .i64 r) := by
  refine CallOk.intro 9 Tryd.func67 rfl Tryd.ntmps67 (Nat.le_of_ble_eq_true rfl) ?_
  intro c a w hG hn h
  unfold replica_state at hF
  change SatL c [.slot 0 (aggVP [one (intVP .u32 a_0.f_Chain), one (intVP .u32 a_0.f_Here), bytesCk 32 a_0.f_Updater, one (slVP (dC 32) a_0.f_Watchers), one (intVP .u64 a_0.f_Window), bytesCk 32 a_0.f_Committed, one (slVP S_api_Timed.ck a_0.f_Roots), one (slVP S_api_State.ck a_0.f_States), one (boolVP a_0.f_Failed), one (boolVP a_0.f_Cut)]), .slot 1 (aggVP [bytesCk 32 a_1])] a w at h
  refine regS mixed hn hG h [504, 502, 503, 501] (ob [0] (op_box q0 (cells_agg _)) <| ob [1] (op_box q0 (cells_agg _)) <| ov [] (op_assign qi) .nil) fun b1 a w h => ?_
  replace h := h.publish 3 rfl
  replace h := h.factslot 1 3 rfl rfl
  replace h := h.sub [0, 1, 2] (by rfl)
  change SatL c [.slot 2 (lpVP (b1 0) 0), .slot 3 (ppVP [bytesCk 32 a_1]), .res (lb (b1 0) 44 [one (intVP .u32 a_0.f_Chain), one (intVP .u32 a_0.f_Here), bytesCk 32 a_0.f_Updater, one (slVP (dC 32) a_0.f_Watchers), one (intVP .u64 a_0.f_Window), bytesCk 32 a_0.f_Committed, one (slVP S_api_Timed.ck a_0.f_Roots), one (slVP S_api_State.ck a_0.f_States), one (boolVP a_0.f_Failed), one (boolVP a_0.f_Cut)])] a w at h
  obtain ⟨r3, hr3, hF⟩ := bind_some hF
  refine regS mixed hn hG h [500] (ov [0] (op_fieldAddr_lbm (p := (b1 0)) (n := 1) 0 69 Tryd.underlying44 rfl Tryd.sizeOf42 (by decide) q0 rfl) <| ov [500, 2] (op_load_lb1 [one (intVP .u32 a_0.f_Chain), one (intVP .u32 a_0.f_Here), bytesCk 32 a_0.f_Updater, one (slVP (dC 32) a_0.f_Watchers), one (intVP .u64 a_0.f_Window), bytesCk 32 a_0.f_Committed, one (slVP S_api_Timed.ck a_0.f_Roots)] [one (boolVP a_0.f_Failed), one (boolVP a_0.f_Cut)] 1 Tryd.isAgg42 q0 rfl rfl) <| ov [1] (op_makeFunc_pp (A := (fun x : S_api_State => [(aggVP [bytesCk 32 x.f_Leaf, one (intVP .i64 x.f_Status), bytesCk 32 x.f_Root])])) (B := (fun r : Bool => (boolVP r))) (g := (fun x : S_api_State => replica_state_1 x a_1)) (Cs := [(ppVP [bytesCk 32 a_1])]) Tryd.call81 (fun x r h => replica_state_1_ok h) ⟨q0, trivial⟩) <| oc [501, 500] [] Tryd.call80 (slices_IndexFunc_api_State_ok hr3) ⟨q0, q1, trivial⟩ <| ov [500] (op_assign q0) .nil) fun _ a w h => ?_
  refine wp_ret ?_
  obtain rfl := Option.some.inj hF
  exact ⟨.inl rfl, ret1 h Tryd.results67 (r_tmp 0 rfl) [] [] rfl rfl rfl⟩

def replica_Status (a_0 : S_api_Replica) (a_1 : List UInt8) : Option (Int × (List UInt8)) := ((replica_state a_0 a_1).bind fun r4 => (if (decide (r4 < (0 : Int))) = true then some (0, (List.replicate 32 0)) else (if (0 : Int) ≤ r4 ∧ r4 < a_0.f_States.length then some ((a_0.f_States.getD r4.toNat default).f_Status, (a_0.f_States.getD r4.toNat default).f_Root) else none)))
theorem replica_Status_ok {a_0 : S_api_Replica} {a_1 : List UInt8} {r : Int × (List UInt8)} (hF : replica_Status a_0 a_1 = some r) : CallOk Tryd.prog KG 44 [(aggVP [one (intVP .u32 a_0.f_Chain), one (intVP .u32 a_0.f_Here), bytesCk 32 a_0.f_Updater, one (slVP (dC 32) a_0.f_Watchers), one (intVP .u64 a_0.f_Window), bytesCk 32 a_0.f_Committed, one (slVP S_api_Timed.ck a_0.f_Roots), one (slVP S_api_State.ck a_0.f_States), one (boolVP a_0.f_Failed), one (boolVP a_0.f_Cut)]), (aggVP [bytesCk 32 a_1])] [] (fun _ => []) (tupVP [(intVP .i64 r.1), (aggVP [bytesCk 32 r.2])]) := by
  refine CallOk.intro 25 Tryd.func44 rfl Tryd.ntmps44 (Nat.le_of_ble_eq_true rfl) ?_
  intro c a w hG hn h
  unfold replica_Status at hF
  change SatL c [.slot 0 (aggVP [one (intVP .u32 a_0.f_Chain), one (intVP .u32 a_0.f_Here), bytesCk 32 a_0.f_Updater, one (slVP (dC 32) a_0.f_Watchers), one (intVP .u64 a_0.f_Window), bytesCk 32 a_0.f_Committed, one (slVP S_api_Timed.ck a_0.f_Roots), one (slVP S_api_State.ck a_0.f_States), one (boolVP a_0.f_Failed), one (boolVP a_0.f_Cut)]), .slot 1 (aggVP [bytesCk 32 a_1])] a w at h
  refine regS mixed hn hG h [506, 504, 501, 505, 503, 500] (ob [0] (op_box q0 (cells_agg _)) <| ob [1] (op_box q0 (cells_agg _)) <| ov [] (op_assign qi) <| ob [] (op_alloc Tryd.zeroValue33 z33) .nil) fun b1 a w h => ?_
  obtain ⟨r4, hr4, hF⟩ := bind_some hF
  refine regS mixed hn hG h [0, 2, 500, 3, 5] (ov [0, 3] (op_load_w 1 Tryd.isAgg44 Tryd.sizeOf44 q0) <| ov [1, 4] (op_load_w 1 Tryd.isAgg33 Tryd.sizeOf33 q0) <| oc [501, 500] [] Tryd.call67 (replica_state_ok hr4) ⟨q0, q1, trivial⟩ <| ov [500] (op_assign q0) .nil) fun _ a w h => ?_
  refine wp_seq ?_
  refine regS mixed hn hG h [0, 1, 2, 500, 3, 4] (ov [2] (op_move q0) <| ov [500] (op_bin bin_lss q0 qi) .nil) fun _ a w h => ?_
  refine cnd h hF 3 [1, 5] [0, 1, 2, 4, 5] (fun hb5 hF h => ?_) (fun hb5 hF h => ?_)
  · refine regS mixed hn hG h [501, 0, 500] (ov [] (build0 Tryd.zeroValue33 Tryd.underlying33 Tryd.sizeOf5 z33) <| ov [] (op_assign qi) <| ou [0, 501] 1 (op_store_w Tryd.sizeOf33 q0 q1 (cells_agg _)) .nil) fun _ a w h => ?_
    refine wp_ret ?_
    obtain rfl := Option.some.inj hF
    exact ⟨.inl rfl, retn h (rs := [.tmp 4, .cell 5 33]) (Vs := [(intVP .i64 0), (aggVP [bytesCk 32 (List.replicate 32 0)])]) Tryd.results44 (by decide) ⟨(r_tmp 0 rfl), (r_cell 1 2 rfl rfl Tryd.isAgg33 Tryd.sizeOf33 rfl), trivial⟩ [] [] rfl rfl rfl⟩
  · refine wp_skip ?_
    show Code.wp Tryd.prog _ _ a w
    obtain ⟨hv6, hF⟩ := ite_some hF
    refine regS mixed hn hG h [501, 1, 500] (ov [0] (op_fieldAddr_lbm (p := (b1 0)) (n := 1) 0 69 Tryd.underlying44 rfl Tryd.sizeOf42 (by decide) q0 rfl) <| ov [500, 3] (op_load_lb1 [one (intVP .u32 a_0.f_Chain), one (intVP .u32 a_0.f_Here), bytesCk 32 a_0.f_Updater, one (slVP (dC 32) a_0.f_Watchers), one (intVP .u64 a_0.f_Window), bytesCk 32 a_0.f_Committed, one (slVP S_api_Timed.ck a_0.f_Roots)] [one (boolVP a_0.f_Failed), one (boolVP a_0.f_Cut)] 1 Tryd.isAgg42 q0 rfl rfl) <| ov [2] (op_move q0) <| ov [501, 500] (op_indexAddr_sl Tryd.underlying42 Tryd.sizeOf130 S_api_State.lens q0 q1 hv6) <| ov [500] (op_fieldAddr_pp (n := 1) [bytesCk 32 ((a_0.f_States.getD r4.toNat default).f_Leaf)] _ Tryd.underlying130 rfl Tryd.sizeOf3 (by decide) q0 rfl) <| ov [500] (op_load_pp1 [bytesCk 32 ((a_0.f_States.getD r4.toNat default).f_Root)] Tryd.isAgg3 q0) <| ov [0] (op_fieldAddr_lbm (p := (b1 0)) (n := 1) 0 69 Tryd.underlying44 rfl Tryd.sizeOf42 (by decide) q0 rfl) <| ov [500, 3] (op_load_lb1 [one (intVP .u32 a_0.f_Chain), one (intVP .u32 a_0.f_Here), bytesCk 32 a_0.f_Updater, one (slVP (dC 32) a_0.f_Watchers), one (intVP .u64 a_0.f_Window), bytesCk 32 a_0.f_Committed, one (slVP S_api_Timed.ck a_0.f_Roots)] [one (boolVP a_0.f_Failed), one (boolVP a_0.f_Cut)] 1 Tryd.isAgg42 q0 rfl rfl) <| ov [2] (op_move q0) <| ov [501, 500] (op_indexAddr_sl Tryd.underlying42 Tryd.sizeOf130 S_api_State.lens q0 q1 hv6) <| ov [500] (op_fieldAddr_pp (n := 32) [bytesCk 32 ((a_0.f_States.getD r4.toNat default).f_Leaf), one (intVP .i64 ((a_0.f_States.getD r4.toNat default).f_Status))] _ Tryd.underlying130 rfl Tryd.sizeOf33 (by decide) q0 rfl) <| ov [500] (op_load_pp [bytesCk 32 ((a_0.f_States.getD r4.toNat default).f_Root)] [] Tryd.isAgg33 Tryd.sizeOf33 q0 rfl) <| ov [506] (op_assign q0) <| ou [1, 501] 4 (op_store_w Tryd.sizeOf33 q0 q1 (cells_agg _)) .nil) fun _ a w h => ?_
    refine wp_ret ?_
    obtain rfl := Option.some.inj hF
    exact ⟨.inl rfl, retn h (rs := [.tmp 4, .cell 5 33]) (Vs := [(intVP .i64 ((a_0.f_States.getD r4.toNat default).f_Status)), (aggVP [bytesCk 32 ((a_0.f_States.getD r4.toNat default).f_Root)])]) Tryd.results44 (by decide) ⟨(r_tmp 0 rfl), (r_cell 1 2 rfl rfl Tryd.isAgg33 Tryd.sizeOf33 rfl), trivial⟩ [] [] rfl rfl rfl⟩

def audit_Open.j2 (x11 : Int) (x29 : Int) : Option (Flow Int (Int × Int)) := some (.cont (x29, IntKind.wrap .i64 (x11 + 1)))
def audit_Open.j1 (a_1 : List (List UInt8)) (a_2 : S_api_Replica) (x10 : Int) (x11 : Int) (x25 : Bool) : Option (Flow Int (Int × Int)) := (if x25 = true then some (.cont (x10, IntKind.wrap .i64 (x11 + 1))) else (if (0 : Int) ≤ x11 ∧ x11 < a_1.length then ((replica_Status a_2 (a_1.getD x11.toNat default)).bind fun r28 => (if (!decide (r28.1 = (2 : Int))) = true then audit_Open.j2 x11 (IntKind.wrap .i64 (x10 + 1)) else audit_Open.j2 x11 x10)) else none))
def audit_Open.b1 (a_0 : List (S_api_Letter)) (a_1 : List (List UInt8)) (a_2 : S_api_Replica) (x10 : Int) (x11 : Int) : Option (Flow Int (Int × Int)) := (if (decide (x11 < (a_0.length : Int))) = true then (if (0 : Int) ≤ x11 ∧ x11 < a_0.length then (if (decide ((a_1.length : Int) ≤ x11)) = true then audit_Open.j1 a_1 a_2 x10 x11 true else audit_Open.j1 a_1 a_2 x10 x11 (!decide (((a_0.getD x11.toNat default).f_To) = a_2.f_Here))) else none) else some (.brk (x10, x11)))
def audit_Open (a_0 : List (S_api_Letter)) (a_1 : List (List UInt8)) (a_2 : S_api_Replica) : Option Int := ((loopN (fun s : Int × Int => audit_Open.b1 a_0 a_1 a_2 s.1 s.2) (((a_0.length : Int) - 0 : Int).toNat + 2) (0, 0)).bind fun cr => match cr with | .ret r => some r | .next (y36, y37) => some y36)
theorem audit_Open_ok {a_0 : List (S_api_Letter)} {a_1 : List (List UInt8)} {a_2 : S_api_Replica} {r : Int} (hF : audit_Open a_0 a_1 a_2 = some r) : CallOk Tryd.prog KG 22 [(slVP S_api_Letter.ck a_0), (slVP (dC 32) a_1), (aggVP [one (intVP .u32 a_2.f_Chain), one (intVP .u32 a_2.f_Here), bytesCk 32 a_2.f_Updater, one (slVP (dC 32) a_2.f_Watchers), one (intVP .u64 a_2.f_Window), bytesCk 32 a_2.f_Committed, one (slVP S_api_Timed.ck a_2.f_Roots), one (slVP S_api_State.ck a_2.f_States), one (boolVP a_2.f_Failed), one (boolVP a_2.f_Cut)])] [] (fun _ => []) (intVP .i64 r) := by
  refine CallOk.intro 45 Tryd.func22 rfl Tryd.ntmps22 (Nat.le_of_ble_eq_true rfl) ?_
  intro c a w hG hn h
  unfold audit_Open at hF
  change SatL c [.slot 0 (slVP S_api_Letter.ck a_0), .slot 1 (slVP (dC 32) a_1), .slot 2 (aggVP [one (intVP .u32 a_2.f_Chain), one (intVP .u32 a_2.f_Here), bytesCk 32 a_2.f_Updater, one (slVP (dC 32) a_2.f_Watchers), one (intVP .u64 a_2.f_Window), bytesCk 32 a_2.f_Committed, one (slVP S_api_Timed.ck a_2.f_Roots), one (slVP S_api_State.ck a_2.f_States), one (boolVP a_2.f_Failed), one (boolVP a_2.f_Cut)])] a w at h
  refine regS mixed hn hG h [0, 1, 502, 501] (ob [2] (op_box q0 (cells_agg _)) <| ov [] (op_assign qi) .nil) fun b1 a w h => ?_
  refine regS mixed hn hG h [0, 1, 2, 500, 3] (ov [] (op_assign qi) .nil) fun _ a w h => ?_
  refine wp_seq ?_
  refine regS mixed hn hG h [1, 2, 3, 502, 501, 500, 4] (ov [0] (op_move q0) <| ov [500] (op_len_sl Tryd.underlying63 q0) <| ov [] (op_move qi) .nil) fun _ a w h => ?_
  refine wp_block ?_
  obtain ⟨cr32, hl33, hF⟩ := bind_some hF
  refine wp_mono (wp_loopN (R := Int) (S := Int × Int) (fun s a w => SatL c [.slot 1 (slVP (dC 32) a_1), .slot 5 (lpVP (b1 0) 0), .slot 7 (intVP .i64 s.1), .slot 12 (slVP S_api_Letter.ck a_0), .slot 13 (intVP .i64 (a_0.length : Int)), .slot 14 (intVP .i64 s.2), .res (lb (b1 0) 44 [one (intVP .u32 a_2.f_Chain), one (intVP .u32 a_2.f_Here), bytesCk 32 a_2.f_Updater, one (slVP (dC 32) a_2.f_Watchers), one (intVP .u64 a_2.f_Window), bytesCk 32 a_2.f_Committed, one (slVP S_api_Timed.ck a_2.f_Roots), one (slVP S_api_State.ck a_2.f_States), one (boolVP a_2.f_Failed), one (boolVP a_2.f_Cut)])] a w) (fun res e a w => match res with | .next s => e = .exit 0 ∧ SatL c [.slot 7 (intVP .i64 s.1)] a w | .ret r => e = .ret ∧ RetOk Tryd.prog Tryd.f22 c (intVP .i64 r) (fun _ => []) a w) ?_ _ (0, 0) _ _ _ (h.sub [0, 1, 2, 3, 4, 5, 6] (by rfl)) hl33) ?_
  · clear hl33 hF h
    intro s a w o h hF
    obtain ⟨x10, x11⟩ := s
    change audit_Open.b1 a_0 a_1 a_2 x10 x11 = some o at hF
    unfold audit_Open.b1 at hF
    change SatL c [.slot 1 (slVP (dC 32) a_1), .slot 5 (lpVP (b1 0) 0), .slot 7 (intVP .i64 x10), .slot 12 (slVP S_api_Letter.ck a_0), .slot 13 (intVP .i64 (a_0.length : Int)), .slot 14 (intVP .i64 x11), .res (lb (b1 0) 44 [one (intVP .u32 a_2.f_Chain), one (intVP .u32 a_2.f_Here), bytesCk 32 a_2.f_Updater, one (slVP (dC 32) a_2.f_Watchers), one (intVP .u64 a_2.f_Window), bytesCk 32 a_2.f_Committed, one (slVP S_api_Timed.ck a_2.f_Roots), one (slVP S_api_State.ck a_2.f_States), one (boolVP a_2.f_Failed), one (boolVP a_2.f_Cut)])] a w at h
    refine regS mixed hn hG h [0, 1, 2, 3, 4, 5, 500, 6] (ov [5, 4] (op_bin bin_lss q0 q1) .nil) fun _ a w h => ?_
    refine wp_seq ?_
    refine cnd h hF 6 [0, 1, 2, 3, 4, 5, 7] [0, 1, 2, 3, 4, 5, 7] (fun hb22 hF h => ?_) (fun hb22 hF h => ?_)
    · refine wp_skip ?_
      show Code.wp Tryd.prog _ _ a w
      refine wp_seq ?_
      refine wp_block ?_
      obtain ⟨hv23, hF⟩ := ite_some hF
      refine regS mixed hn hG h [0, 1, 2, 501, 503, 3, 4, 5, 6, 500] (ov [5] (op_move q0) <| ov [3, 5] (op_indexAddr_sl Tryd.underlying63 Tryd.sizeOf66 S_api_Letter.lens q0 q1 hv23) <| ov [500] (op_load_pp [one (intVP .u32 ((a_0.getD x11.toNat default).f_From)), one (intVP .u32 ((a_0.getD x11.toNat default).f_Nonce)), one (intVP .u32 ((a_0.getD x11.toNat default).f_To)), one (strVP ((a_0.getD x11.toNat default).f_Sender)), one (strVP ((a_0.getD x11.toNat default).f_Receiver)), one (strVP ((a_0.getD x11.toNat default).f_Body))] [] Tryd.isAgg66 Tryd.sizeOf66 q0 rfl) <| ob [] (op_alloc Tryd.zeroValue66 z66) <| ov [504] (op_assign q0) <| og [502, 503] [501] [.res 3 100000 (fun v1_ _ => (lb (v1_) 66 [one (intVP .u32 ((a_0.getD x11.toNat default).f_From)), one (intVP .u32 ((a_0.getD x11.toNat default).f_Nonce)), one (intVP .u32 ((a_0.getD x11.toNat default).f_To)), one (strVP ((a_0.getD x11.toNat default).f_Sender)), one (strVP ((a_0.getD x11.toNat default).f_Receiver)), one (strVP ((a_0.getD x11.toNat default).f_Body))]))] (GOk.plain (op_store_w Tryd.sizeOf66 q0 q1 (cells_agg _)) rfl) .nil) fun b24 a w h => ?_
      refine wp_seq ?_
      refine wp_seq ?_
      refine wp_cut (fun a w => ∃ (x25 : Bool), audit_Open.j1 a_1 a_2 x10 x11 x25 = some o ∧ SatL c [.slot 1 (slVP (dC 32) a_1), .slot 5 (lpVP (b1 0) 0), .slot 7 (intVP .i64 x10), .slot 8 (intVP .i64 x11), .slot 12 (slVP S_api_Letter.ck a_0), .slot 13 (intVP .i64 (a_0.length : Int)), .slot 14 (intVP .i64 x11), .slot 29 (boolVP x25), .res (lb (b1 0) 44 [one (intVP .u32 a_2.f_Chain), one (intVP .u32 a_2.f_Here), bytesCk 32 a_2.f_Updater, one (slVP (dC 32) a_2.f_Watchers), one (intVP .u64 a_2.f_Window), bytesCk 32 a_2.f_Committed, one (slVP S_api_Timed.ck a_2.f_Roots), one (slVP S_api_State.ck a_2.f_States), one (boolVP a_2.f_Failed), one (boolVP a_2.f_Cut)])] a w) ?_ ?_
      · rcases Bool.eq_false_or_eq_true (decide ((a_1.length : Int) ≤ x11)) with hb31 | hb31
        · replace hF := tt_of hb31 hF
          refine reg mixed hn hG h [0, 1, 2, 3, 5, 6, 7, 500, 8] (ov [3] (op_move q0) <| ov [0] (op_move q0) <| ov [500] (op_len_sl Tryd.underlying37 q0) <| ov [502, 500] (op_bin bin_geq q0 q1) <| ov [500] (op_move q0) <| oe [500] [] (GOk.off_v (want := false) hb31 rfl rfl rfl rfl) <| oe [501] [] (GOk.off_v (want := false) hb31 rfl rfl rfl rfl) <| oe [502] [] (GOk.off_v (want := false) hb31 rfl rfl rfl rfl) <| oe [503] [] (GOk.off_v (want := false) hb31 rfl rfl rfl rfl) <| oe [504] [] (GOk.off_v (want := false) hb31 rfl rfl rfl rfl) <| ov [505] (op_pick_t hb31 q0 qb) .nil) fun _ a w h => ?_
          exact ⟨true, hF, h.sub [0, 1, 2, 3, 4, 5, 6, 7, 8] (by rfl)⟩
        · replace hF := ff_of hb31 hF
          refine reg mixed hn hG h [0, 1, 2, 3, 5, 6, 7, 500, 8] (ov [3] (op_move q0) <| ov [0] (op_move q0) <| ov [500] (op_len_sl Tryd.underlying37 q0) <| ov [502, 500] (op_bin bin_geq q0 q1) <| ov [500] (op_move q0) <| oe [500, 4] [] (GOk.on_eq hb31 rfl rfl rfl (op_fieldAddr_lbm (p := (b24 3)) (n := 1) 0 2 Tryd.underlying66 rfl Tryd.sizeOf22 (by decide) q0 rfl)) <| oe [501, 500, 9] [] (GOk.on_eq hb31 rfl rfl rfl (op_load_lb1 [one (intVP .u32 ((a_0.getD x11.toNat default).f_From)), one (intVP .u32 ((a_0.getD x11.toNat default).f_Nonce))] [one (strVP ((a_0.getD x11.toNat default).f_Sender)), one (strVP ((a_0.getD x11.toNat default).f_Receiver)), one (strVP ((a_0.getD x11.toNat default).f_Body))] 1 Tryd.isAgg22 q0 rfl rfl)) <| oe [502, 1] [] (GOk.on_eq hb31 rfl rfl rfl (op_fieldAddr_lbm (p := (b1 0)) (n := 1) 0 1 Tryd.underlying44 rfl Tryd.sizeOf22 (by decide) q0 rfl)) <| oe [503, 500, 8] [] (GOk.on_eq hb31 rfl rfl rfl (op_load_lb1 [one (intVP .u32 a_2.f_Chain)] [bytesCk 32 a_2.f_Updater, one (slVP (dC 32) a_2.f_Watchers), one (intVP .u64 a_2.f_Window), bytesCk 32 a_2.f_Committed, one (slVP S_api_Timed.ck a_2.f_Roots), one (slVP S_api_State.ck a_2.f_States), one (boolVP a_2.f_Failed), one (boolVP a_2.f_Cut)] 1 Tryd.isAgg22 q0 rfl rfl)) <| oe [504, 502, 500] [] (GOk.on_eq hb31 rfl rfl rfl (op_bin bin_neq q0 q1)) <| ov [505, 500] (op_pick_f hb31 q0 q1) .nil) fun _ a w h => ?_
          exact ⟨!decide (((a_0.getD x11.toNat default).f_To) = a_2.f_Here), hF, h.sub [0, 1, 2, 3, 4, 5, 6, 7, 8] (by rfl)⟩
      · clear h hF
        rintro a w ⟨x25, hF, h⟩
        unfold audit_Open.j1 at hF
        show Code.wp Tryd.prog _ _ a w
        refine cnd h hF 7 [0, 1, 2, 4, 5, 6, 8] [0, 1, 2, 3, 4, 5, 6, 8] (fun hb26 hF h => ?_) (fun hb26 hF h => ?_)
        · refine wp_exit ?_
          show Code.wp Tryd.prog _ _ a w
          refine reg mixed hn hG h [0, 1, 2, 3, 4, 500, 6] (ov [5] (op_bin bin_add q0 qi) <| od [500] 5 (op_move q0) .nil) fun _ a w h => ?_
          obtain rfl := Option.some.inj hF
          exact ⟨rfl, h.sub [0, 1, 2, 3, 4, 5, 6] (by rfl)⟩
        · refine wp_skip ?_
          show Code.wp Tryd.prog _ _ a w
          obtain ⟨hv27, hF⟩ := ite_some hF
          obtain ⟨r28, hr28, hF⟩ := bind_some hF
          refine regS mixed hn hG h [0, 1, 2, 501, 4, 5, 6, 7] (ov [1, 7] (op_load_w 1 Tryd.isAgg44 Tryd.sizeOf44 q0) <| ov [0] (op_move q0) <| ov [3] (op_move q0) <| ov [501, 500] (op_indexAddr_sl Tryd.underlying37 Tryd.sizeOf33 (lens_dC 32) q0 q1 hv27) <| ov [500] (op_load_pp [bytesCk 32 (a_1.getD x11.toNat default)] [] Tryd.isAgg33 Tryd.sizeOf33 q0 rfl) <| oc [504, 500] [] Tryd.call44 (replica_Status_ok hr28) ⟨q0, q1, trivial⟩ <| ov [500] (op_move q0) <| ov [500] (op_extract q0 rfl) <| ov [501] (op_extract q0 rfl) <| ob [] (op_alloc Tryd.zeroValue33 z33) <| ov [503] (op_assign q0) <| og [502, 503] [501] [.res 9 100000 (fun v1_ _ => (lb (v1_) 33 [bytesCk 32 r28.2]))] (GOk.plain (op_store_w Tryd.sizeOf33 q0 q1 (cells_agg _)) rfl) .nil) fun _ a w h => ?_
          refine regS mixed hn hG h [0, 1, 2, 4, 5, 6, 500, 7] (ov [3] (op_move q0) <| ov [500] (op_bin bin_neq q0 qi) .nil) fun _ a w h => ?_
          refine wp_cut (fun a w => ∃ (x29 : Int), audit_Open.j2 x11 x29 = some o ∧ SatL c [.slot 1 (slVP (dC 32) a_1), .slot 5 (lpVP (b1 0) 0), .slot 7 (intVP .i64 x29), .slot 12 (slVP S_api_Letter.ck a_0), .slot 13 (intVP .i64 (a_0.length : Int)), .slot 14 (intVP .i64 x11), .res (lb (b1 0) 44 [one (intVP .u32 a_2.f_Chain), one (intVP .u32 a_2.f_Here), bytesCk 32 a_2.f_Updater, one (slVP (dC 32) a_2.f_Watchers), one (intVP .u64 a_2.f_Window), bytesCk 32 a_2.f_Committed, one (slVP S_api_Timed.ck a_2.f_Roots), one (slVP S_api_State.ck a_2.f_States), one (boolVP a_2.f_Failed), one (boolVP a_2.f_Cut)])] a w) ?_ ?_
          · refine cnd h hF 6 [0, 1, 2, 3, 4, 5, 7] [0, 1, 2, 3, 4, 5, 7] (fun hb30 hF h => ?_) (fun hb30 hF h => ?_)
            · refine reg mixed hn hG h [0, 1, 500, 3, 4, 5, 6] (ov [2] (op_move q0) <| ov [500] (op_bin bin_add q0 qi) <| od [500] 2 (op_assign q0) .nil) fun _ a w h => ?_
              exact ⟨IntKind.wrap .i64 (x10 + 1), hF, h.sub [0, 1, 2, 3, 4, 5, 6] (by rfl)⟩
            · refine wp_skip ?_
              exact ⟨x10, hF, h.sub [0, 1, 2, 3, 4, 5, 6] (by rfl)⟩
          · clear h hF
            rintro a w ⟨x29, hF, h⟩
            unfold audit_Open.j2 at hF
            show Code.wp Tryd.prog _ _ a w
            refine reg mixed hn hG h [0, 1, 2, 3, 4, 500, 6] (ov [5] (op_bin bin_add q0 qi) <| od [500] 5 (op_move q0) .nil) fun _ a w h => ?_
            obtain rfl := Option.some.inj hF
            exact ⟨rfl, h.sub [0, 1, 2, 3, 4, 5, 6] (by rfl)⟩
    · refine wp_exit ?_
      obtain rfl := Option.some.inj hF
      exact ⟨exit_ne _, rfl, h.sub [2] (by rfl)⟩
  · clear hl33
    intro e a w hq
    cases cr32 with
    | ret r34 =>
      obtain ⟨rfl, hq⟩ := hq
      obtain rfl := Option.some.inj hF
      exact ⟨.inl rfl, hq⟩
    | next s35 =>
      obtain ⟨y36, y37⟩ := s35
      obtain ⟨rfl, h⟩ := hq
      change SatL c [.slot 7 (intVP .i64 y36)] a w at h
      refine inBlock_at ?_
      show Code.wp Tryd.prog _ _ a w
      refine regS mixed hn hG h [500] (ov [0] (op_move q0) <| ov [500] (op_assign q0) .nil) fun _ a w h => ?_
      refine wp_ret ?_
      obtain rfl := Option.some.inj hF
      exact ⟨.inl rfl, ret1 h Tryd.results22 (r_tmp 0 rfl) [] [] rfl rfl rfl⟩

def ref17_Status.b1 (a_0 : S_api_Replica) (a_1 : List UInt8) (x8 : Int) : Option (Flow (Int × (List UInt8)) Int) := (if (decide (x8 < (a_0.f_States.length : Int))) = true then (if (0 : Int) ≤ x8 ∧ x8 < a_0.f_States.length then (if (decide (((a_0.f_States.getD x8.toNat default).f_Leaf) = a_1)) = true then some (.ret ((a_0.f_States.getD x8.toNat default).f_Status, (a_0.f_States.getD x8.toNat default).f_Root)) else some (.cont (IntKind.wrap .i64 (x8 + 1)))) else none) else some (.brk x8))
def ref17_Status (a_0 : S_api_Replica) (a_1 : List UInt8) : Option (Int × (List UInt8)) := ((loopN (fun s : Int => ref17_Status.b1 a_0 a_1 s) (((a_0.f_States.length : Int) - 0 : Int).toNat + 2) 0).bind fun cr => match cr with | .ret r => some r | .next y22 => some (0, (List.replicate 32 0)))
theorem ref17_Status_ok {a_0 : S_api_Replica} {a_1 : List UInt8} {r : Int × (List UInt8)} (hF : ref17_Status a_0 a_1 = some r) : CallOk Tryd.prog KG 45 [(aggVP [one (intVP .u32 a_0.f_Chain), one (intVP .u32 a_0.f_Here), bytesCk 32 a_0.f_Updater, one (slVP (dC 32) a_0.f_Watchers), one (intVP .u64 a_0.f_Window), bytesCk 32 a_0.f_Committed, one (slVP S_api_Timed.ck a_0.f_Roots), one (slVP S_api_State.ck a_0.f_States), one (boolVP a_0.f_Failed), one (boolVP a_0.f_Cut)]), (aggVP [bytesCk 32 a_1])] [] (fun _ => []) (tupVP [(intVP .i64 r.1), (aggVP [bytesCk 32 r.2])]) := by
  refine CallOk.intro 25 Tryd.func45 rfl Tryd.ntmps45 (Nat.le_of_ble_eq_true rfl) ?_
  intro c a w hG hn h
  unfold ref17_Status at hF
  change SatL c [.slot 0 (aggVP [one (intVP .u32 a_0.f_Chain), one (intVP .u32 a_0.f_Here), bytesCk 32 a_0.f_Updater, one (slVP (dC 32) a_0.f_Watchers), one (intVP .u64 a_0.f_Window), bytesCk 32 a_0.f_Committed, one (slVP S_api_Timed.ck a_0.f_Roots), one (slVP S_api_State.ck a_0.f_States), one (boolVP a_0.f_Failed), one (boolVP a_0.f_Cut)]), .slot 1 (aggVP [bytesCk 32 a_1])] a w at h
  refine regS mixed hn hG h [506, 504, 501, 505, 503, 500] (ob [0] (op_box q0 (cells_agg _)) <| ob [1] (op_box q0 (cells_agg _)) <| ov [] (op_assign qi) <| ob [] (op_alloc Tryd.zeroValue33 z33) .nil) fun b1 a w h => ?_
  refine wp_seq ?_
  refine regS mixed hn hG h [1, 2, 502, 501, 500, 4, 5] (ov [0] (op_fieldAddr_lbm (p := (b1 0)) (n := 1) 0 69 Tryd.underlying44 rfl Tryd.sizeOf42 (by decide) q0 rfl) <| ov [500, 3] (op_load_lb1 [one (intVP .u32 a_0.f_Chain), one (intVP .u32 a_0.f_Here), bytesCk 32 a_0.f_Updater, one (slVP (dC 32) a_0.f_Watchers), one (intVP .u64 a_0.f_Window), bytesCk 32 a_0.f_Committed, one (slVP S_api_Timed.ck a_0.f_Roots)] [one (boolVP a_0.f_Failed), one (boolVP a_0.f_Cut)] 1 Tryd.isAgg42 q0 rfl rfl) <| ov [500] (op_len_sl Tryd.underlying42 q0) <| ov [] (op_move qi) .nil) fun _ a w h => ?_
  refine wp_block ?_
  obtain ⟨cr18, hl19, hF⟩ := bind_some hF
  refine wp_mono (wp_loopN (R := Int × (List UInt8)) (S := Int) (fun s a w => SatL c [.slot 3 (lpVP (b1 1) 0), .slot 5 (lpVP (b1 3) 0), .slot 9 (slVP S_api_State.ck a_0.f_States), .slot 10 (intVP .i64 (a_0.f_States.length : Int)), .slot 11 (intVP .i64 s), .res (lb (b1 1) 33 [bytesCk 32 a_1]), .res (lb (b1 3) 33 [bytesCk 32 (List.replicate 32 0)])] a w) (fun res e a w => match res with | .next s => e = .exit 0 ∧ SatL c [.slot 5 (lpVP (b1 3) 0), .res (lb (b1 3) 33 [bytesCk 32 (List.replicate 32 0)])] a w | .ret r => e = .ret ∧ RetOk Tryd.prog Tryd.f45 c (tupVP [(intVP .i64 r.1), (aggVP [bytesCk 32 r.2])]) (fun _ => []) a w) ?_ _ 0 _ _ _ (h.sub [0, 1, 2, 3, 4, 5, 6] (by rfl)) hl19) ?_
  · clear hl19 hF h
    intro x8 a w o h hF
    change ref17_Status.b1 a_0 a_1 x8 = some o at hF
    unfold ref17_Status.b1 at hF
    change SatL c [.slot 3 (lpVP (b1 1) 0), .slot 5 (lpVP (b1 3) 0), .slot 9 (slVP S_api_State.ck a_0.f_States), .slot 10 (intVP .i64 (a_0.f_States.length : Int)), .slot 11 (intVP .i64 x8), .res (lb (b1 1) 33 [bytesCk 32 a_1]), .res (lb (b1 3) 33 [bytesCk 32 (List.replicate 32 0)])] a w at h
    refine regS mixed hn hG h [0, 1, 2, 3, 4, 500, 5, 6] (ov [4, 3] (op_bin bin_lss q0 q1) .nil) fun _ a w h => ?_
    refine wp_seq ?_
    refine cnd h hF 5 [0, 1, 2, 3, 4, 6, 7] [0, 1, 2, 3, 4, 6, 7] (fun hb14 hF h => ?_) (fun hb14 hF h => ?_)
    · refine wp_skip ?_
      show Code.wp Tryd.prog _ _ a w
      refine wp_seq ?_
      refine wp_block ?_
      obtain ⟨hv15, hF⟩ := ite_some hF
      refine regS mixed hn hG h [0, 1, 502, 2, 3, 4, 5, 6, 500] (ov [2, 4] (op_indexAddr_sl Tryd.underlying42 Tryd.sizeOf130 S_api_State.lens q0 q1 hv15) <| ov [500] (op_load_pp [bytesCk 32 ((a_0.f_States.getD x8.toNat default).f_Leaf), one (intVP .i64 ((a_0.f_States.getD x8.toNat default).f_Status)), bytesCk 32 ((a_0.f_States.getD x8.toNat default).f_Root)] [] Tryd.isAgg130 Tryd.sizeOf130 q0 rfl) <| ob [] (op_alloc Tryd.zeroValue130 z130) <| og [501, 502] [500] [.res 2 100000 (fun v1_ _ => (lb (v1_) 130 [bytesCk 32 ((a_0.f_States.getD x8.toNat default).f_Leaf), one (intVP .i64 ((a_0.f_States.getD x8.toNat default).f_Status)), bytesCk 32 ((a_0.f_States.getD x8.toNat default).f_Root)]))] (GOk.plain (op_store_w Tryd.sizeOf130 q0 q1 (cells_agg _)) rfl) .nil) fun b16 a w h => ?_
      refine regS mixed hn hG h [0, 1, 2, 3, 4, 5, 500, 6, 7, 8] (ov [2] (op_fieldAddr_lbm (p := (b16 2)) (n := 32) 0 0 Tryd.underlying130 rfl Tryd.sizeOf33 (by decide) q0 rfl) <| ov [500, 8] (op_load_lb [] [bytesCk 32 ((a_0.f_States.getD x8.toNat default).f_Leaf)] [one (intVP .i64 ((a_0.f_States.getD x8.toNat default).f_Status)), bytesCk 32 ((a_0.f_States.getD x8.toNat default).f_Root)] 1 Tryd.isAgg33 Tryd.sizeOf33 q0 rfl rfl rfl) <| ov [0, 6] (op_load_w 1 Tryd.isAgg33 Tryd.sizeOf33 q0) <| ov [501, 500] (op_bin (bin_aeql Tryd.underlying33 Tryd.underlying5 Tryd.type5 Tryd.sizeOf5 Tryd.isAgg5 Tryd.eqGuardType33) q0 q1) .nil) fun _ a w h => ?_
      refine cnd h hF 6 [1, 2, 8, 9] [0, 1, 3, 4, 5, 7, 8] (fun hb17 hF h => ?_) (fun hb17 hF h => ?_)
      · refine regS mixed hn hG h [501, 0, 500] (ov [1] (op_fieldAddr_lbm (p := (b16 2)) (n := 1) 0 32 Tryd.underlying130 rfl Tryd.sizeOf3 (by decide) q0 rfl) <| ov [500, 3] (op_load_lb1 [bytesCk 32 ((a_0.f_States.getD x8.toNat default).f_Leaf)] [bytesCk 32 ((a_0.f_States.getD x8.toNat default).f_Root)] 1 Tryd.isAgg3 q0 rfl rfl) <| ov [1] (op_fieldAddr_lbm (p := (b16 2)) (n := 32) 0 33 Tryd.underlying130 rfl Tryd.sizeOf33 (by decide) q0 rfl) <| ov [500, 3] (op_load_lb [bytesCk 32 ((a_0.f_States.getD x8.toNat default).f_Leaf), one (intVP .i64 ((a_0.f_States.getD x8.toNat default).f_Status))] [bytesCk 32 ((a_0.f_States.getD x8.toNat default).f_Root)] [] 1 Tryd.isAgg33 Tryd.sizeOf33 q0 rfl rfl rfl) <| ov [502] (op_assign q0) <| ou [0, 501] 2 (op_store_w Tryd.sizeOf33 q0 q1 (cells_agg _)) .nil) fun _ a w h => ?_
        refine wp_ret ?_
        obtain rfl := Option.some.inj hF
        exact ⟨ret_ne, rfl, retn h (rs := [.tmp 4, .cell 5 33]) (Vs := [(intVP .i64 ((a_0.f_States.getD x8.toNat default).f_Status)), (aggVP [bytesCk 32 ((a_0.f_States.getD x8.toNat default).f_Root)])]) Tryd.results45 (by decide) ⟨(r_tmp 0 rfl), (r_cell 1 2 rfl rfl Tryd.isAgg33 Tryd.sizeOf33 rfl), trivial⟩ [] [] rfl rfl rfl⟩
      · refine wp_skip ?_
        show Code.wp Tryd.prog _ _ a w
        refine reg mixed hn hG h [0, 1, 2, 3, 500, 5, 6] (ov [4] (op_bin bin_add q0 qi) <| od [500] 4 (op_move q0) .nil) fun _ a w h => ?_
        obtain rfl := Option.some.inj hF
        exact ⟨rfl, h.sub [0, 1, 2, 3, 4, 5, 6] (by rfl)⟩
    · refine wp_exit ?_
      obtain rfl := Option.some.inj hF
      exact ⟨exit_ne _, rfl, h.sub [1, 6] (by rfl)⟩
  · clear hl19
    intro e a w hq
    cases cr18 with
    | ret r20 =>
      obtain ⟨rfl, hq⟩ := hq
      obtain rfl := Option.some.inj hF
      exact ⟨.inl rfl, hq⟩
    | next y22 =>
      obtain ⟨rfl, h⟩ := hq
      change SatL c [.slot 5 (lpVP (b1 3) 0), .res (lb (b1 3) 33 [bytesCk 32 (List.replicate 32 0)])] a w at h
      refine inBlock_at ?_
      show Code.wp Tryd.prog _ _ a w
      refine regS mixed hn hG h [501, 0, 500] (ov [] (build0 Tryd.zeroValue33 Tryd.underlying33 Tryd.sizeOf5 z33) <| ov [] (op_assign qi) <| ou [0, 501] 1 (op_store_w Tryd.sizeOf33 q0 q1 (cells_agg _)) .nil) fun _ a w h => ?_
      refine wp_ret ?_
      obtain rfl := Option.some.inj hF
      exact ⟨.inl rfl, retn h (rs := [.tmp 4, .cell 5 33]) (Vs := [(intVP .i64 0), (aggVP [bytesCk 32 (List.replicate 32 0)])]) Tryd.results45 (by decide) ⟨(r_tmp 0 rfl), (r_cell 1 2 rfl rfl Tryd.isAgg33 Tryd.sizeOf33 rfl), trivial⟩ [] [] rfl rfl rfl⟩

def ref28_Open.j3 (x10 : Int) (x26 : Int) : Option (Flow Int (Int × Int)) := some (.cont (x26, IntKind.wrap .i64 (x10 + 1)))
def ref28_Open.j2 (x9 : Int) (x10 : Int) (x25 : Bool) : Option (Flow Int (Int × Int)) := (if x25 = true then ref28_Open.j3 x10 (IntKind.wrap .i64 (x9 + 1)) else ref28_Open.j3 x10 x9)
def ref28_Open.j1 (a_0 : List (S_api_Letter)) (a_1 : List (List UInt8)) (a_2 : S_api_Replica) (x9 : Int) (x10 : Int) (x20 : Bool) : Option (Flow Int (Int × Int)) := (if x20 = true then (if (0 : Int) ≤ x10 ∧ x10 < a_1.length then ((ref17_Status a_2 (a_1.getD x10.toNat default)).bind fun r23 => (if (0 : Int) ≤ x10 ∧ x10 < a_0.length then (if (decide (((a_0.getD x10.toNat default).f_To) = a_2.f_Here)) = true then ref28_Open.j2 x9 x10 (!decide (r23.1 = (2 : Int))) else ref28_Open.j2 x9 x10 false) else none)) else none) else some (.brk (x9, x10)))
def ref28_Open.b1 (a_0 : List (S_api_Letter)) (a_1 : List (List UInt8)) (a_2 : S_api_Replica) (x9 : Int) (x10 : Int) : Option (Flow Int (Int × Int)) := (if (decide (x10 < (a_0.length : Int))) = true then ref28_Open.j1 a_0 a_1 a_2 x9 x10 (decide (x10 < (a_1.length : Int))) else ref28_Open.j1 a_0 a_1 a_2 x9 x10 false)
def ref28_Open (a_0 : List (S_api_Letter)) (a_1 : List (List UInt8)) (a_2 : S_api_Replica) : Option Int := ((loopN (fun s : Int × Int => ref28_Open.b1 a_0 a_1 a_2 s.1 s.2) 100000 (0, 0)).bind fun cr => match cr with | .ret r => some r | .next (y34, y35) => some y34)
theorem ref28_Open_ok {a_0 : List (S_api_Letter)} {a_1 : List (List UInt8)} {a_2 : S_api_Replica} {r : Int} (hF : ref28_Open a_0 a_1 a_2 = some r) : CallOk Tryd.prog KG 23 [(slVP S_api_Letter.ck a_0), (slVP (dC 32) a_1), (aggVP [one (intVP .u32 a_2.f_Chain), one (intVP .u32 a_2.f_Here), bytesCk 32 a_2.f_Updater, one (slVP (dC 32) a_2.f_Watchers), one (intVP .u64 a_2.f_Window), bytesCk 32 a_2.f_Committed, one (slVP S_api_Timed.ck a_2.f_Roots), one (slVP S_api_State.ck a_2.f_States), one (boolVP a_2.f_Failed), one (boolVP a_2.f_Cut)])] [] (fun _ => []) (intVP .i64 r) := by
  refine CallOk.intro 47 Tryd.func23 rfl Tryd.ntmps23 (Nat.le_of_ble_eq_true rfl) ?_
  intro c a w hG hn h
  unfold ref28_Open at hF
  change SatL c [.slot 0 (slVP S_api_Letter.ck a_0), .slot 1 (slVP (dC 32) a_1), .slot 2 (aggVP [one (intVP .u32 a_2.f_Chain), one (intVP .u32 a_2.f_Here), bytesCk 32 a_2.f_Updater, one (slVP (dC 32) a_2.f_Watchers), one (intVP .u64 a_2.f_Window), bytesCk 32 a_2.f_Committed, one (slVP S_api_Timed.ck a_2.f_Roots), one (slVP S_api_State.ck a_2.f_States), one (boolVP a_2.f_Failed), one (boolVP a_2.f_Cut)])] a w at h
  refine regS mixed hn hG h [0, 1, 502, 501] (ob [2] (op_box q0 (cells_agg _)) <| ov [] (op_assign qi) .nil) fun b1 a w h => ?_
  refine regS mixed hn hG h [0, 1, 2, 500, 3] (ov [] (op_assign qi) .nil) fun _ a w h => ?_
  refine wp_seq ?_
  refine regS mixed hn hG h [0, 1, 2, 3, 500, 4] (ov [] (op_assign qi) .nil) fun _ a w h => ?_
  refine wp_block ?_
  obtain ⟨cr30, hl31, hF⟩ := bind_some hF
  refine wp_mono (wp_loopN (R := Int) (S := Int × Int) (fun s a w => SatL c [.slot 0 (slVP S_api_Letter.ck a_0), .slot 1 (slVP (dC 32) a_1), .slot 5 (lpVP (b1 0) 0), .slot 7 (intVP .i64 s.1), .slot 8 (intVP .i64 s.2), .res (lb (b1 0) 44 [one (intVP .u32 a_2.f_Chain), one (intVP .u32 a_2.f_Here), bytesCk 32 a_2.f_Updater, one (slVP (dC 32) a_2.f_Watchers), one (intVP .u64 a_2.f_Window), bytesCk 32 a_2.f_Committed, one (slVP S_api_Timed.ck a_2.f_Roots), one (slVP S_api_State.ck a_2.f_States), one (boolVP a_2.f_Failed), one (boolVP a_2.f_Cut)])] a w) (fun res e a w => match res with | .next s => e = .exit 0 ∧ SatL c [.slot 7 (intVP .i64 s.1)] a w | .ret r => e = .ret ∧ RetOk Tryd.prog Tryd.f23 c (intVP .i64 r) (fun _ => []) a w) ?_ _ (0, 0) _ _ _ (h.sub [0, 1, 2, 3, 4, 5] (by rfl)) hl31) ?_
  · clear hl31 hF h
    intro s a w o h hF
    obtain ⟨x9, x10⟩ := s
    change ref28_Open.b1 a_0 a_1 a_2 x9 x10 = some o at hF
    unfold ref28_Open.b1 at hF
    change SatL c [.slot 0 (slVP S_api_Letter.ck a_0), .slot 1 (slVP (dC 32) a_1), .slot 5 (lpVP (b1 0) 0), .slot 7 (intVP .i64 x9), .slot 8 (intVP .i64 x10), .res (lb (b1 0) 44 [one (intVP .u32 a_2.f_Chain), one (intVP .u32 a_2.f_Here), bytesCk 32 a_2.f_Updater, one (slVP (dC 32) a_2.f_Watchers), one (intVP .u64 a_2.f_Window), bytesCk 32 a_2.f_Committed, one (slVP S_api_Timed.ck a_2.f_Roots), one (slVP S_api_State.ck a_2.f_States), one (boolVP a_2.f_Failed), one (boolVP a_2.f_Cut)])] a w at h
    refine wp_seq ?_
    refine wp_seq ?_
    refine wp_cut (fun a w => ∃ (x20 : Bool), ref28_Open.j1 a_0 a_1 a_2 x9 x10 x20 = some o ∧ SatL c [.slot 0 (slVP S_api_Letter.ck a_0), .slot 1 (slVP (dC 32) a_1), .slot 5 (lpVP (b1 0) 0), .slot 7 (intVP .i64 x9), .slot 8 (intVP .i64 x10), .slot 20 (boolVP x20), .res (lb (b1 0) 44 [one (intVP .u32 a_2.f_Chain), one (intVP .u32 a_2.f_Here), bytesCk 32 a_2.f_Updater, one (slVP (dC 32) a_2.f_Watchers), one (intVP .u64 a_2.f_Window), bytesCk 32 a_2.f_Committed, one (slVP S_api_Timed.ck a_2.f_Roots), one (slVP S_api_State.ck a_2.f_States), one (boolVP a_2.f_Failed), one (boolVP a_2.f_Cut)])] a w) ?_ ?_
    · rcases Bool.eq_false_or_eq_true (decide (x10 < (a_0.length : Int))) with hb29 | hb29
      · replace hF := tt_of hb29 hF
        refine reg mixed hn hG h [0, 1, 2, 3, 4, 500, 5] (ov [4] (op_move q0) <| ov [0] (op_move q0) <| ov [500] (op_len_sl Tryd.underlying63 q0) <| ov [502, 500] (op_bin bin_lss q0 q1) <| ov [500] (op_move q0) <| oe [500, 4] [] (GOk.on_eq hb29 rfl rfl rfl (op_move q0)) <| oe [501, 1] [] (GOk.on_eq hb29 rfl rfl rfl (op_move q0)) <| oe [502, 500] [] (GOk.on_eq hb29 rfl rfl rfl (op_len_sl Tryd.underlying37 q0)) <| oe [503, 502, 500] [] (GOk.on_eq hb29 rfl rfl rfl (op_bin bin_lss q0 q1)) <| ov [504, 500] (op_pick_t hb29 q0 q1) .nil) fun _ a w h => ?_
        exact ⟨decide (x10 < (a_1.length : Int)), hF, h.sub [0, 1, 2, 3, 4, 5, 6] (by rfl)⟩
      · replace hF := ff_of hb29 hF
        refine reg mixed hn hG h [0, 1, 2, 3, 4, 500, 5] (ov [4] (op_move q0) <| ov [0] (op_move q0) <| ov [500] (op_len_sl Tryd.underlying63 q0) <| ov [502, 500] (op_bin bin_lss q0 q1) <| ov [500] (op_move q0) <| oe [500] [] (GOk.off_v (want := true) hb29 rfl rfl rfl rfl) <| oe [501] [] (GOk.off_v (want := true) hb29 rfl rfl rfl rfl) <| oe [502] [] (GOk.off_v (want := true) hb29 rfl rfl rfl rfl) <| oe [503] [] (GOk.off_v (want := true) hb29 rfl rfl rfl rfl) <| ov [504] (op_pick_f hb29 q0 qb) .nil) fun _ a w h => ?_
        exact ⟨false, hF, h.sub [0, 1, 2, 3, 4, 5, 6] (by rfl)⟩
    · clear h hF
      rintro a w ⟨x20, hF, h⟩
      unfold ref28_Open.j1 at hF
      show Code.wp Tryd.prog _ _ a w
      refine cnd h hF 5 [0, 1, 2, 3, 4, 6] [0, 1, 2, 3, 4, 6] (fun hb21 hF h => ?_) (fun hb21 hF h => ?_)
      · refine wp_skip ?_
        show Code.wp Tryd.prog _ _ a w
        refine wp_seq ?_
        refine wp_block ?_
        obtain ⟨hv22, hF⟩ := ite_some hF
        obtain ⟨r23, hr23, hF⟩ := bind_some hF
        refine regS mixed hn hG h [0, 1, 2, 3, 4, 501, 5] (ov [2, 5] (op_load_w 1 Tryd.isAgg44 Tryd.sizeOf44 q0) <| ov [1] (op_move q0) <| ov [4] (op_move q0) <| ov [501, 500] (op_indexAddr_sl Tryd.underlying37 Tryd.sizeOf33 (lens_dC 32) q0 q1 hv22) <| ov [500] (op_load_pp [bytesCk 32 (a_1.getD x10.toNat default)] [] Tryd.isAgg33 Tryd.sizeOf33 q0 rfl) <| oc [504, 500] [] Tryd.call45 (ref17_Status_ok hr23) ⟨q0, q1, trivial⟩ <| ov [500] (op_move q0) <| ov [500] (op_extract q0 rfl) <| ov [501] (op_extract q0 rfl) <| ob [] (op_alloc Tryd.zeroValue33 z33) <| ov [503] (op_assign q0) <| og [502, 503] [501] [.res 9 100000 (fun v1_ _ => (lb (v1_) 33 [bytesCk 32 r23.2]))] (GOk.plain (op_store_w Tryd.sizeOf33 q0 q1 (cells_agg _)) rfl) .nil) fun _ a w h => ?_
        refine wp_seq ?_
        obtain ⟨hv24, hF⟩ := ite_some hF
        refine wp_cut (fun a w => ∃ (x25 : Bool), ref28_Open.j2 x9 x10 x25 = some o ∧ SatL c [.slot 0 (slVP S_api_Letter.ck a_0), .slot 1 (slVP (dC 32) a_1), .slot 5 (lpVP (b1 0) 0), .slot 7 (intVP .i64 x9), .slot 8 (intVP .i64 x10), .slot 43 (boolVP x25), .res (lb (b1 0) 44 [one (intVP .u32 a_2.f_Chain), one (intVP .u32 a_2.f_Here), bytesCk 32 a_2.f_Updater, one (slVP (dC 32) a_2.f_Watchers), one (intVP .u64 a_2.f_Window), bytesCk 32 a_2.f_Committed, one (slVP S_api_Timed.ck a_2.f_Roots), one (slVP S_api_State.ck a_2.f_States), one (boolVP a_2.f_Failed), one (boolVP a_2.f_Cut)])] a w) ?_ ?_
        · rcases Bool.eq_false_or_eq_true (decide (((a_0.getD x10.toNat default).f_To) = a_2.f_Here)) with hb28 | hb28
          · replace hF := tt_of hb28 hF
            refine reg mixed hn hG h [0, 1, 2, 3, 4, 500, 6] (ov [0] (op_move q0) <| ov [4] (op_move q0) <| ov [501, 500] (op_indexAddr_sl Tryd.underlying63 Tryd.sizeOf66 S_api_Letter.lens q0 q1 hv24) <| ov [500] (op_fieldAddr_pp (n := 1) [one (intVP .u32 ((a_0.getD x10.toNat default).f_From)), one (intVP .u32 ((a_0.getD x10.toNat default).f_Nonce))] _ Tryd.underlying66 rfl Tryd.sizeOf22 (by decide) q0 rfl) <| ov [500] (op_load_pp1 [one (strVP ((a_0.getD x10.toNat default).f_Sender)), one (strVP ((a_0.getD x10.toNat default).f_Receiver)), one (strVP ((a_0.getD x10.toNat default).f_Body))] Tryd.isAgg22 q0) <| ov [2] (op_fieldAddr_lbm (p := (b1 0)) (n := 1) 0 1 Tryd.underlying44 rfl Tryd.sizeOf22 (by decide) q0 rfl) <| ov [500, 6] (op_load_lb1 [one (intVP .u32 a_2.f_Chain)] [bytesCk 32 a_2.f_Updater, one (slVP (dC 32) a_2.f_Watchers), one (intVP .u64 a_2.f_Window), bytesCk 32 a_2.f_Committed, one (slVP S_api_Timed.ck a_2.f_Roots), one (slVP S_api_State.ck a_2.f_States), one (boolVP a_2.f_Failed), one (boolVP a_2.f_Cut)] 1 Tryd.isAgg22 q0 rfl rfl) <| ov [502, 500] (op_bin bin_eql q0 q1) <| ov [500] (op_move q0) <| oe [500, 5] [] (GOk.on_eq hb28 rfl rfl rfl (op_move q0)) <| oe [501, 500] [] (GOk.on_eq hb28 rfl rfl rfl (op_bin bin_neq q0 qi)) <| ov [502, 500] (op_pick_t hb28 q0 q1) .nil) fun _ a w h => ?_
            exact ⟨!decide (r23.1 = (2 : Int)), hF, h.sub [0, 1, 2, 3, 4, 5, 6] (by rfl)⟩
          · replace hF := ff_of hb28 hF
            refine reg mixed hn hG h [0, 1, 2, 3, 4, 500, 6] (ov [0] (op_move q0) <| ov [4] (op_move q0) <| ov [501, 500] (op_indexAddr_sl Tryd.underlying63 Tryd.sizeOf66 S_api_Letter.lens q0 q1 hv24) <| ov [500] (op_fieldAddr_pp (n := 1) [one (intVP .u32 ((a_0.getD x10.toNat default).f_From)), one (intVP .u32 ((a_0.getD x10.toNat default).f_Nonce))] _ Tryd.underlying66 rfl Tryd.sizeOf22 (by decide) q0 rfl) <| ov [500] (op_load_pp1 [one (strVP ((a_0.getD x10.toNat default).f_Sender)), one (strVP ((a_0.getD x10.toNat default).f_Receiver)), one (strVP ((a_0.getD x10.toNat default).f_Body))] Tryd.isAgg22 q0) <| ov [2] (op_fieldAddr_lbm (p := (b1 0)) (n := 1) 0 1 Tryd.underlying44 rfl Tryd.sizeOf22 (by decide) q0 rfl) <| ov [500, 6] (op_load_lb1 [one (intVP .u32 a_2.f_Chain)] [bytesCk 32 a_2.f_Updater, one (slVP (dC 32) a_2.f_Watchers), one (intVP .u64 a_2.f_Window), bytesCk 32 a_2.f_Committed, one (slVP S_api_Timed.ck a_2.f_Roots), one (slVP S_api_State.ck a_2.f_States), one (boolVP a_2.f_Failed), one (boolVP a_2.f_Cut)] 1 Tryd.isAgg22 q0 rfl rfl) <| ov [502, 500] (op_bin bin_eql q0 q1) <| ov [500] (op_move q0) <| oe [500] [] (GOk.off_v (want := true) hb28 rfl rfl rfl rfl) <| oe [501] [] (GOk.off_v (want := true) hb28 rfl rfl rfl rfl) <| ov [502] (op_pick_f hb28 q0 qb) .nil) fun _ a w h => ?_
            exact ⟨false, hF, h.sub [0, 1, 2, 3, 4, 5, 6] (by rfl)⟩
        · clear h hF
          rintro a w ⟨x25, hF, h⟩
          unfold ref28_Open.j2 at hF
          show Code.wp Tryd.prog _ _ a w
          refine wp_cut (fun a w => ∃ (x26 : Int), ref28_Open.j3 x10 x26 = some o ∧ SatL c [.slot 0 (slVP S_api_Letter.ck a_0), .slot 1 (slVP (dC 32) a_1), .slot 5 (lpVP (b1 0) 0), .slot 7 (intVP .i64 x26), .slot 8 (intVP .i64 x10), .res (lb (b1 0) 44 [one (intVP .u32 a_2.f_Chain), one (intVP .u32 a_2.f_Here), bytesCk 32 a_2.f_Updater, one (slVP (dC 32) a_2.f_Watchers), one (intVP .u64 a_2.f_Window), bytesCk 32 a_2.f_Committed, one (slVP S_api_Timed.ck a_2.f_Roots), one (slVP S_api_State.ck a_2.f_States), one (boolVP a_2.f_Failed), one (boolVP a_2.f_Cut)])] a w) ?_ ?_
          · refine cnd h hF 5 [0, 1, 2, 3, 4, 6] [0, 1, 2, 3, 4, 6] (fun hb27 hF h => ?_) (fun hb27 hF h => ?_)
            · refine reg mixed hn hG h [0, 1, 2, 500, 4, 5] (ov [3] (op_move q0) <| ov [500] (op_bin bin_add q0 qi) <| od [500] 3 (op_assign q0) .nil) fun _ a w h => ?_
              exact ⟨IntKind.wrap .i64 (x9 + 1), hF, h.sub [0, 1, 2, 3, 4, 5] (by rfl)⟩
            · refine wp_skip ?_
              exact ⟨x9, hF, h.sub [0, 1, 2, 3, 4, 5] (by rfl)⟩
          · clear h hF
            rintro a w ⟨x26, hF, h⟩
            unfold ref28_Open.j3 at hF
            show Code.wp Tryd.prog _ _ a w
            refine reg mixed hn hG h [0, 1, 2, 3, 500, 5] (ov [4] (op_move q0) <| ov [500] (op_bin bin_add q0 qi) <| od [500] 4 (op_assign q0) .nil) fun _ a w h => ?_
            obtain rfl := Option.some.inj hF
            exact ⟨rfl, h.sub [0, 1, 2, 3, 4, 5] (by rfl)⟩
      · refine wp_exit ?_
        obtain rfl := Option.some.inj hF
        exact ⟨exit_ne _, rfl, h.sub [3] (by rfl)⟩
  · clear hl31
    intro e a w hq
    cases cr30 with
    | ret r32 =>
      obtain ⟨rfl, hq⟩ := hq
      obtain rfl := Option.some.inj hF
      exact ⟨.inl rfl, hq⟩
    | next s33 =>
      obtain ⟨y34, y35⟩ := s33
      obtain ⟨rfl, h⟩ := hq
      change SatL c [.slot 7 (intVP .i64 y34)] a w at h
      refine inBlock_at ?_
      show Code.wp Tryd.prog _ _ a w
      refine regS mixed hn hG h [500] (ov [0] (op_move q0) <| ov [500] (op_assign q0) .nil) fun _ a w h => ?_
      refine wp_ret ?_
      obtain rfl := Option.some.inj hF
      exact ⟨.inl rfl, ret1 h Tryd.results23 (r_tmp 0 rfl) [] [] rfl rfl rfl⟩

def law28_AuditLetters.j1 (x41 : Int) (x51 : Bool) : Option (Flow Bool Int) := (if x51 = true then some (.ret true) else some (.cont (IntKind.wrap .i64 (x41 + 1))))
def law28_AuditLetters.b2 (a_0 : List (S_api_Letter)) (a_1 : List (S_api_Letter)) (x18 : Int) (x41 : Int) : Option (Flow Bool Int) := (if (decide (x41 < (([a_0, a_1].getD x18.toNat default).length : Int))) = true then (if (0 : Int) ≤ x41 ∧ x41 < ([a_0, a_1].getD x18.toNat default).length then (if (decide ((60 : Int) < (([a_0, a_1].getD x18.toNat default).length : Int))) = true then law28_AuditLetters.j1 x41 true else law28_AuditLetters.j1 x41 (decide ((1000 : Int) < (if (if (((([a_0, a_1].getD x18.toNat default).getD x41.toNat default).f_Sender).length : Int) < (((([a_0, a_1].getD x18.toNat default).getD x41.toNat default).f_Receiver).length : Int) then (((([a_0, a_1].getD x18.toNat default).getD x41.toNat default).f_Receiver).length : Int) else (((([a_0, a_1].getD x18.toNat default).getD x41.toNat default).f_Sender).length : Int)) < (((([a_0, a_1].getD x18.toNat default).getD x41.toNat default).f_Body).length : Int) then (((([a_0, a_1].getD x18.toNat default).getD x41.toNat default).f_Body).length : Int) else (if (((([a_0, a_1].getD x18.toNat default).getD x41.toNat default).f_Sender).length : Int) < (((([a_0, a_1].getD x18.toNat default).getD x41.toNat default).f_Receiver).length : Int) then (((([a_0, a_1].getD x18.toNat default).getD x41.toNat default).f_Receiver).length : Int) else (((([a_0, a_1].getD x18.toNat default).getD x41.toNat default).f_Sender).length : Int)))))) else none) else some (.brk x41))
def law28_AuditLetters.b1 (a_0 : List (S_api_Letter)) (a_1 : List (S_api_Letter)) (x18 : Int) : Option (Flow Bool Int) := (if (decide (x18 < ([a_0, a_1].length : Int))) = true then (if (0 : Int) ≤ x18 ∧ x18 < [a_0, a_1].length then ((loopN (fun s : Int => law28_AuditLetters.b2 a_0 a_1 x18 s) (((([a_0, a_1].getD x18.toNat default).length : Int) - 0 : Int).toNat + 2) 0).bind fun cr => match cr with | .ret r => some (.ret r) | .next y58 => some (.cont (IntKind.wrap .i64 (x18 + 1)))) else none) else some (.brk x18))
def law28_AuditLetters.j3 (x72 : Bool) : Option Bool := some x72
def law28_AuditLetters.j2 (a_0 : List (S_api_Letter)) (a_1 : List (S_api_Letter)) (a_2 : List (List UInt8)) (a_3 : S_api_Replica) (x64 : Bool) : Option Bool := (if x64 = true then some true else ((audit_Foreign a_0 a_1).bind fun r66 => ((ref28_Foreign a_0 a_1).bind fun r67 => (if (decide (r66 = r67)) = true then ((audit_Again a_1).bind fun r68 => ((ref28_Again a_1).bind fun r69 => (if (decide (r68 = r69)) = true then ((audit_Open a_0 a_2 a_3).bind fun r70 => ((ref28_Open a_0 a_2 a_3).bind fun r71 => law28_AuditLetters.j3 (decide (r70 = r71)))) else law28_AuditLetters.j3 false))) else law28_AuditLetters.j3 false))))
def law28_AuditLetters (a_0 : List (S_api_Letter)) (a_1 : List (S_api_Letter)) (a_2 : List (List UInt8)) (a_3 : S_api_Replica) : Option Bool := ((law28_awake).bind fun r2 => (if (!r2) = true then some false else ((loopN (fun s : Int => law28_AuditLetters.b1 a_0 a_1 s) ((([a_0, a_1].length : Int) - 0 : Int).toNat + 2) 0).bind fun cr => match cr with | .ret r => some r | .next y63 => (if (decide ((60 : Int) < (a_2.length : Int))) = true then law28_AuditLetters.j2 a_0 a_1 a_2 a_3 true else law28_AuditLetters.j2 a_0 a_1 a_2 a_3 (decide ((200 : Int) < (a_3.f_States.length : Int)))))))
theorem law28_AuditLetters_ok {a_0 : List (S_api_Letter)} {a_1 : List (S_api_Letter)} {a_2 : List (List UInt8)} {a_3 : S_api_Replica} {r : Bool} (hF : law28_AuditLetters a_0 a_1 a_2 a_3 = some r) : CallOk Tryd.prog KG 4 [(slVP S_api_Letter.ck a_0), (slVP S_api_Letter.ck a_1), (slVP (dC 32) a_2), (aggVP [one (intVP .u32 a_3.f_Chain), one (intVP .u32 a_3.f_Here), bytesCk 32 a_3.f_Updater, one (slVP (dC 32) a_3.f_Watchers), one (intVP .u64 a_3.f_Window), bytesCk 32 a_3.f_Committed, one (slVP S_api_Timed.ck a_3.f_Roots), one (slVP S_api_State.ck a_3.f_States), one (boolVP a_3.f_Failed), one (boolVP a_3.f_Cut)])] [] (fun _ => []) (boolVP r) := by
  refine CallOk.intro 81 Tryd.func4 rfl Tryd.ntmps4 (Nat.le_of_ble_eq_true rfl) ?_
  intro c a w hG hn h
  unfold law28_AuditLetters at hF
  change SatL c [.slot 0 (slVP S_api_Letter.ck a_0), .slot 1 (slVP S_api_Letter.ck a_1), .slot 2 (slVP (dC 32) a_2), .slot 3 (aggVP [one (intVP .u32 a_3.f_Chain), one (intVP .u32 a_3.f_Here), bytesCk 32 a_3.f_Updater, one (slVP (dC 32) a_3.f_Watchers), one (intVP .u64 a_3.f_Window), bytesCk 32 a_3.f_Committed, one (slVP S_api_Timed.ck a_3.f_Roots), one (slVP S_api_State.ck a_3.f_States), one (boolVP a_3.f_Failed), one (boolVP a_3.f_Cut)])] a w at h
  refine regS mixed hn hG h [0, 1, 2, 502, 501] (ob [3] (op_box q0 (cells_agg _)) <| ov [] (op_assign qb) .nil) fun b1 a w h => ?_
  refine wp_seq ?_
  obtain ⟨r2, hr2, hF⟩ := bind_some hF
  refine regS mixed hn hG h [0, 1, 2, 3, 500, 4] (oc [] [] Tryd.call5 (law28_awake_ok hr2) trivial <| ov [500] (op_un (un_not _) q0) .nil) fun _ a w h => ?_
  refine cnd h hF 4 [] [0, 1, 2, 3, 5] (fun hb3 hF h => ?_) (fun hb3 hF h => ?_)
  · refine regS mixed hn hG h [500] (ov [] (op_assign qb) .nil) fun _ a w h => ?_
    refine wp_ret ?_
    obtain rfl := Option.some.inj hF
    exact ⟨.inl rfl, ret1 h Tryd.results4 (r_tmp 0 rfl) [] [] rfl rfl rfl⟩
  · refine wp_skip ?_
    show Code.wp Tryd.prog _ _ a w
    refine wp_seq ?_
    refine regS mixed hn hG h [0, 1, 2, 3, 502, 501, 500, 4] (ov [0] (op_move q0) <| ov [1] (op_move q0) <| ov [501, 500] (op_lit (xs := [.tmp 15, .tmp 16]) (ys := [a_0, a_1]) _ rfl Tryd.underlying64 Tryd.sizeOf63 Tryd.zeroValue63 rfl rfl (by decide) (by decide) ⟨⟨_, q0, (cells_one (one_sl _ _))⟩, ⟨_, q1, (cells_one (one_sl _ _))⟩, trivial⟩ (lens_slC S_api_Letter.ck)) <| ov [500] (op_len_sl Tryd.underlying64 q0) <| ov [] (op_move qi) .nil) fun _ a w h => ?_
    refine wp_block ?_
    obtain ⟨cr59, hl60, hF⟩ := bind_some hF
    refine wp_mono (wp_loopN (R := Bool) (S := Int) (fun s a w => SatL c [.slot 0 (slVP S_api_Letter.ck a_0), .slot 1 (slVP S_api_Letter.ck a_1), .slot 2 (slVP (dC 32) a_2), .slot 7 (lpVP (b1 0) 0), .slot 17 (slVP (slC S_api_Letter.ck) [a_0, a_1]), .slot 18 (intVP .i64 ([a_0, a_1].length : Int)), .slot 19 (intVP .i64 s), .res (lb (b1 0) 44 [one (intVP .u32 a_3.f_Chain), one (intVP .u32 a_3.f_Here), bytesCk 32 a_3.f_Updater, one (slVP (dC 32) a_3.f_Watchers), one (intVP .u64 a_3.f_Window), bytesCk 32 a_3.f_Committed, one (slVP S_api_Timed.ck a_3.f_Roots), one (slVP S_api_State.ck a_3.f_States), one (boolVP a_3.f_Failed), one (boolVP a_3.f_Cut)])] a w) (fun res e a w => match res with | .next s => e = .exit 0 ∧ SatL c [.slot 0 (slVP S_api_Letter.ck a_0), .slot 1 (slVP S_api_Letter.ck a_1), .slot 2 (slVP (dC 32) a_2), .slot 7 (lpVP (b1 0) 0), .res (lb (b1 0) 44 [one (intVP .u32 a_3.f_Chain), one (intVP .u32 a_3.f_Here), bytesCk 32 a_3.f_Updater, one (slVP (dC 32) a_3.f_Watchers), one (intVP .u64 a_3.f_Window), bytesCk 32 a_3.f_Committed, one (slVP S_api_Timed.ck a_3.f_Roots), one (slVP S_api_State.ck a_3.f_States), one (boolVP a_3.f_Failed), one (boolVP a_3.f_Cut)])] a w | .ret r => e = .ret ∧ RetOk Tryd.prog Tryd.f4 c (boolVP r) (fun _ => []) a w) ?_ _ 0 _ _ _ (h.sub [0, 1, 2, 3, 4, 5, 6, 7] (by rfl)) hl60) ?_
    · clear hl60 hF h
      intro x18 a w o h hF
      change law28_AuditLetters.b1 a_0 a_1 x18 = some o at hF
      unfold law28_AuditLetters.b1 at hF
      change SatL c [.slot 0 (slVP S_api_Letter.ck a_0), .slot 1 (slVP S_api_Letter.ck a_1), .slot 2 (slVP (dC 32) a_2), .slot 7 (lpVP (b1 0) 0), .slot 17 (slVP (slC S_api_Letter.ck) [a_0, a_1]), .slot 18 (intVP .i64 ([a_0, a_1].length : Int)), .slot 19 (intVP .i64 x18), .res (lb (b1 0) 44 [one (intVP .u32 a_3.f_Chain), one (intVP .u32 a_3.f_Here), bytesCk 32 a_3.f_Updater, one (slVP (dC 32) a_3.f_Watchers), one (intVP .u64 a_3.f_Window), bytesCk 32 a_3.f_Committed, one (slVP S_api_Timed.ck a_3.f_Roots), one (slVP S_api_State.ck a_3.f_States), one (boolVP a_3.f_Failed), one (boolVP a_3.f_Cut)])] a w at h
      refine regS mixed hn hG h [0, 1, 2, 3, 4, 5, 6, 500, 7] (ov [6, 5] (op_bin bin_lss q0 q1) .nil) fun _ a w h => ?_
      refine wp_seq ?_
      refine cnd h hF 7 [0, 1, 2, 3, 4, 5, 6, 8] [0, 1, 2, 3, 4, 5, 6, 8] (fun hb34 hF h => ?_) (fun hb34 hF h => ?_)
      · refine wp_skip ?_
        show Code.wp Tryd.prog _ _ a w
        refine wp_seq ?_
        refine wp_block ?_
        obtain ⟨hv35, hF⟩ := ite_some hF
        refine regS mixed hn hG h [0, 1, 2, 3, 500, 4, 5, 6, 7] (ov [4, 6] (op_indexAddr_sl Tryd.underlying64 Tryd.sizeOf63 (lens_slC S_api_Letter.ck) q0 q1 hv35) <| ov [500] (op_load_pp1 [] Tryd.isAgg63 q0) <| ov [500] (op_assign q0) .nil) fun _ a w h => ?_
        refine regS mixed hn hG h [0, 1, 2, 3, 4, 5, 6, 7, 502, 501, 500, 8] (ov [4] (op_move q0) <| ov [500] (op_len_sl Tryd.underlying63 q0) <| ov [] (op_move qi) .nil) fun _ a w h => ?_
        refine wp_block ?_
        obtain ⟨cr54, hl55, hF⟩ := bind_some hF
        refine wp_mono (wp_loopN (R := Bool) (S := Int) (fun s a w => SatL c [.slot 0 (slVP S_api_Letter.ck a_0), .slot 1 (slVP S_api_Letter.ck a_1), .slot 2 (slVP (dC 32) a_2), .slot 7 (lpVP (b1 0) 0), .slot 10 (slVP S_api_Letter.ck ([a_0, a_1].getD x18.toNat default)), .slot 17 (slVP (slC S_api_Letter.ck) [a_0, a_1]), .slot 18 (intVP .i64 ([a_0, a_1].length : Int)), .slot 19 (intVP .i64 x18), .slot 23 (slVP S_api_Letter.ck ([a_0, a_1].getD x18.toNat default)), .slot 24 (intVP .i64 (([a_0, a_1].getD x18.toNat default).length : Int)), .slot 25 (intVP .i64 s), .res (lb (b1 0) 44 [one (intVP .u32 a_3.f_Chain), one (intVP .u32 a_3.f_Here), bytesCk 32 a_3.f_Updater, one (slVP (dC 32) a_3.f_Watchers), one (intVP .u64 a_3.f_Window), bytesCk 32 a_3.f_Committed, one (slVP S_api_Timed.ck a_3.f_Roots), one (slVP S_api_State.ck a_3.f_States), one (boolVP a_3.f_Failed), one (boolVP a_3.f_Cut)])] a w) (fun res e a w => match res with | .next s => e = .exit 2 ∧ SatL c [.slot 0 (slVP S_api_Letter.ck a_0), .slot 1 (slVP S_api_Letter.ck a_1), .slot 2 (slVP (dC 32) a_2), .slot 7 (lpVP (b1 0) 0), .slot 17 (slVP (slC S_api_Letter.ck) [a_0, a_1]), .slot 18 (intVP .i64 ([a_0, a_1].length : Int)), .slot 19 (intVP .i64 x18), .res (lb (b1 0) 44 [one (intVP .u32 a_3.f_Chain), one (intVP .u32 a_3.f_Here), bytesCk 32 a_3.f_Updater, one (slVP (dC 32) a_3.f_Watchers), one (intVP .u64 a_3.f_Window), bytesCk 32 a_3.f_Committed, one (slVP S_api_Timed.ck a_3.f_Roots), one (slVP S_api_State.ck a_3.f_States), one (boolVP a_3.f_Failed), one (boolVP a_3.f_Cut)])] a w | .ret r => e = .ret ∧ RetOk Tryd.prog Tryd.f4 c (boolVP r) (fun _ => []) a w) ?_ _ 0 _ _ _ (h.sub [0, 1, 2, 3, 4, 5, 6, 7, 8, 9, 10, 11] (by rfl)) hl55) ?_
        · clear hl55 hF h
          intro x41 a w o h hF
          change law28_AuditLetters.b2 a_0 a_1 x18 x41 = some o at hF
          unfold law28_AuditLetters.b2 at hF
          change SatL c [.slot 0 (slVP S_api_Letter.ck a_0), .slot 1 (slVP S_api_Letter.ck a_1), .slot 2 (slVP (dC 32) a_2), .slot 7 (lpVP (b1 0) 0), .slot 10 (slVP S_api_Letter.ck ([a_0, a_1].getD x18.toNat default)), .slot 17 (slVP (slC S_api_Letter.ck) [a_0, a_1]), .slot 18 (intVP .i64 ([a_0, a_1].length : Int)), .slot 19 (intVP .i64 x18), .slot 23 (slVP S_api_Letter.ck ([a_0, a_1].getD x18.toNat default)), .slot 24 (intVP .i64 (([a_0, a_1].getD x18.toNat default).length : Int)), .slot 25 (intVP .i64 x41), .res (lb (b1 0) 44 [one (intVP .u32 a_3.f_Chain), one (intVP .u32 a_3.f_Here), bytesCk 32 a_3.f_Updater, one (slVP (dC 32) a_3.f_Watchers), one (intVP .u64 a_3.f_Window), bytesCk 32 a_3.f_Committed, one (slVP S_api_Timed.ck a_3.f_Roots), one (slVP S_api_State.ck a_3.f_States), one (boolVP a_3.f_Failed), one (boolVP a_3.f_Cut)])] a w at h
          refine regS mixed hn hG h [0, 1, 2, 3, 4, 5, 6, 7, 8, 9, 10, 500, 11] (ov [10, 9] (op_bin bin_lss q0 q1) .nil) fun _ a w h => ?_
          refine wp_seq ?_
          refine cnd h hF 11 [0, 1, 2, 3, 4, 5, 6, 7, 8, 9, 10, 12] [0, 1, 2, 3, 4, 5, 6, 7, 8, 9, 10, 12] (fun hb48 hF h => ?_) (fun hb48 hF h => ?_)
          · refine wp_skip ?_
            show Code.wp Tryd.prog _ _ a w
            refine wp_seq ?_
            refine wp_block ?_
            obtain ⟨hv49, hF⟩ := ite_some hF
            refine regS mixed hn hG h [0, 1, 2, 3, 4, 502, 5, 6, 7, 8, 9, 10, 11, 500] (ov [8, 10] (op_indexAddr_sl Tryd.underlying63 Tryd.sizeOf66 S_api_Letter.lens q0 q1 hv49) <| ov [500] (op_load_pp [one (intVP .u32 ((([a_0, a_1].getD x18.toNat default).getD x41.toNat default).f_From)), one (intVP .u32 ((([a_0, a_1].getD x18.toNat default).getD x41.toNat default).f_Nonce)), one (intVP .u32 ((([a_0, a_1].getD x18.toNat default).getD x41.toNat default).f_To)), one (strVP ((([a_0, a_1].getD x18.toNat default).getD x41.toNat default).f_Sender)), one (strVP ((([a_0, a_1].getD x18.toNat default).getD x41.toNat default).f_Receiver)), one (strVP ((([a_0, a_1].getD x18.toNat default).getD x41.toNat default).f_Body))] [] Tryd.isAgg66 Tryd.sizeOf66 q0 rfl) <| ob [] (op_alloc Tryd.zeroValue66 z66) <| og [501, 502] [500] [.res 2 100000 (fun v1_ _ => (lb (v1_) 66 [one (intVP .u32 ((([a_0, a_1].getD x18.toNat default).getD x41.toNat default).f_From)), one (intVP .u32 ((([a_0, a_1].getD x18.toNat default).getD x41.toNat default).f_Nonce)), one (intVP .u32 ((([a_0, a_1].getD x18.toNat default).getD x41.toNat default).f_To)), one (strVP ((([a_0, a_1].getD x18.toNat default).getD x41.toNat default).f_Sender)), one (strVP ((([a_0, a_1].getD x18.toNat default).getD x41.toNat default).f_Receiver)), one (strVP ((([a_0, a_1].getD x18.toNat default).getD x41.toNat default).f_Body))]))] (GOk.plain (op_store_w Tryd.sizeOf66 q0 q1 (cells_agg _)) rfl) .nil) fun b50 a w h => ?_
            refine wp_seq ?_
            refine wp_cut (fun a w => ∃ (x51 : Bool), law28_AuditLetters.j1 x41 x51 = some o ∧ SatL c [.slot 0 (slVP S_api_Letter.ck a_0), .slot 1 (slVP S_api_Letter.ck a_1), .slot 2 (slVP (dC 32) a_2), .slot 7 (lpVP (b1 0) 0), .slot 10 (slVP S_api_Letter.ck ([a_0, a_1].getD x18.toNat default)), .slot 17 (slVP (slC S_api_Letter.ck) [a_0, a_1]), .slot 18 (intVP .i64 ([a_0, a_1].length : Int)), .slot 19 (intVP .i64 x18), .slot 23 (slVP S_api_Letter.ck ([a_0, a_1].getD x18.toNat default)), .slot 24 (intVP .i64 (([a_0, a_1].getD x18.toNat default).length : Int)), .slot 25 (intVP .i64 x41), .slot 44 (boolVP x51), .res (lb (b1 0) 44 [one (intVP .u32 a_3.f_Chain), one (intVP .u32 a_3.f_Here), bytesCk 32 a_3.f_Updater, one (slVP (dC 32) a_3.f_Watchers), one (intVP .u64 a_3.f_Window), bytesCk 32 a_3.f_Committed, one (slVP S_api_Timed.ck a_3.f_Roots), one (slVP S_api_State.ck a_3.f_States), one (boolVP a_3.f_Failed), one (boolVP a_3.f_Cut)])] a w) ?_ ?_
            · rcases Bool.eq_false_or_eq_true (decide ((60 : Int) < (([a_0, a_1].getD x18.toNat default).length : Int))) with hb53 | hb53
              · replace hF := tt_of hb53 hF
                refine reg mixed hn hG h [0, 1, 2, 3, 4, 6, 7, 8, 9, 10, 11, 500, 12] (ov [4] (op_move q0) <| ov [500] (op_len_sl Tryd.underlying63 q0) <| ov [500] (op_bin bin_gtr q0 qi) <| ov [500] (op_move q0) <| oe [500] [] (GOk.off_v (want := false) hb53 rfl rfl rfl rfl) <| oe [501] [] (GOk.off_v (want := false) hb53 rfl rfl rfl rfl) <| oe [502] [] (GOk.off_v (want := false) hb53 rfl rfl rfl rfl) <| oe [503] [] (GOk.off_v (want := false) hb53 rfl rfl rfl rfl) <| oe [504] [] (GOk.off_v (want := false) hb53 rfl rfl rfl rfl) <| oe [505] [] (GOk.off_v (want := false) hb53 rfl rfl rfl rfl) <| oe [506] [] (GOk.off_v (want := false) hb53 rfl rfl rfl rfl) <| oe [507] [] (GOk.off_v (want := false) hb53 rfl rfl rfl rfl) <| oe [508] [] (GOk.off_v (want := false) hb53 rfl rfl rfl rfl) <| oe [509] [] (GOk.off_v (want := false) hb53 rfl rfl rfl rfl) <| oe [510] [] (GOk.off_v (want := false) hb53 rfl rfl rfl rfl) <| ov [511] (op_pick_t hb53 q0 qb) .nil) fun _ a w h => ?_
                exact ⟨true, hF, h.sub [0, 1, 2, 3, 4, 5, 6, 7, 8, 9, 10, 11, 12] (by rfl)⟩
              · replace hF := ff_of hb53 hF
                refine reg mixed hn hG h [0, 1, 2, 3, 4, 6, 7, 8, 9, 10, 11, 500, 12] (ov [4] (op_move q0) <| ov [500] (op_len_sl Tryd.underlying63 q0) <| ov [500] (op_bin bin_gtr q0 qi) <| ov [500] (op_move q0) <| oe [500, 5] [] (GOk.on_eq hb53 rfl rfl rfl (op_fieldAddr_lbm (p := (b50 2)) (n := 1) 0 3 Tryd.underlying66 rfl Tryd.sizeOf9 (by decide) q0 rfl)) <| oe [501, 500, 13] [] (GOk.on_eq hb53 rfl rfl rfl (op_load_lb1 [one (intVP .u32 ((([a_0, a_1].getD x18.toNat default).getD x41.toNat default).f_From)), one (intVP .u32 ((([a_0, a_1].getD x18.toNat default).getD x41.toNat default).f_Nonce)), one (intVP .u32 ((([a_0, a_1].getD x18.toNat default).getD x41.toNat default).f_To))] [one (strVP ((([a_0, a_1].getD x18.toNat default).getD x41.toNat default).f_Receiver)), one (strVP ((([a_0, a_1].getD x18.toNat default).getD x41.toNat default).f_Body))] 1 Tryd.isAgg9 q0 rfl rfl)) <| oe [502, 500] [] (GOk.on_eq hb53 rfl rfl rfl (op_len_str Tryd.underlying9 q0)) <| oe [503, 5] [] (GOk.on_eq hb53 rfl rfl rfl (op_fieldAddr_lbm (p := (b50 2)) (n := 1) 0 4 Tryd.underlying66 rfl Tryd.sizeOf9 (by decide) q0 rfl)) <| oe [504, 500, 13] [] (GOk.on_eq hb53 rfl rfl rfl (op_load_lb1 [one (intVP .u32 ((([a_0, a_1].getD x18.toNat default).getD x41.toNat default).f_From)), one (intVP .u32 ((([a_0, a_1].getD x18.toNat default).getD x41.toNat default).f_Nonce)), one (intVP .u32 ((([a_0, a_1].getD x18.toNat default).getD x41.toNat default).f_To)), one (strVP ((([a_0, a_1].getD x18.toNat default).getD x41.toNat default).f_Sender))] [one (strVP ((([a_0, a_1].getD x18.toNat default).getD x41.toNat default).f_Body))] 1 Tryd.isAgg9 q0 rfl rfl)) <| oe [505, 500] [] (GOk.on_eq hb53 rfl rfl rfl (op_len_str Tryd.underlying9 q0)) <| oe [506, 5] [] (GOk.on_eq hb53 rfl rfl rfl (op_fieldAddr_lbm (p := (b50 2)) (n := 1) 0 5 Tryd.underlying66 rfl Tryd.sizeOf9 (by decide) q0 rfl)) <| oe [507, 500, 13] [] (GOk.on_eq hb53 rfl rfl rfl (op_load_lb1 [one (intVP .u32 ((([a_0, a_1].getD x18.toNat default).getD x41.toNat default).f_From)), one (intVP .u32 ((([a_0, a_1].getD x18.toNat default).getD x41.toNat default).f_Nonce)), one (intVP .u32 ((([a_0, a_1].getD x18.toNat default).getD x41.toNat default).f_To)), one (strVP ((([a_0, a_1].getD x18.toNat default).getD x41.toNat default).f_Sender)), one (strVP ((([a_0, a_1].getD x18.toNat default).getD x41.toNat default).f_Receiver))] [] 1 Tryd.isAgg9 q0 rfl rfl)) <| oe [508, 500] [] (GOk.on_eq hb53 rfl rfl rfl (op_len_str Tryd.underlying9 q0)) <| oe [509, 506, 503, 500] [] (GOk.on_eq hb53 rfl rfl rfl (op_max3 q0 q1 q2)) <| oe [510, 500] [] (GOk.on_eq hb53 rfl rfl rfl (op_bin bin_gtr q0 qi)) <| ov [511, 500] (op_pick_f hb53 q0 q1) .nil) fun _ a w h => ?_
                exact ⟨decide ((1000 : Int) < (if (if (((([a_0, a_1].getD x18.toNat default).getD x41.toNat default).f_Sender).length : Int) < (((([a_0, a_1].getD x18.toNat default).getD x41.toNat default).f_Receiver).length : Int) then (((([a_0, a_1].getD x18.toNat default).getD x41.toNat default).f_Receiver).length : Int) else (((([a_0, a_1].getD x18.toNat default).getD x41.toNat default).f_Sender).length : Int)) < (((([a_0, a_1].getD x18.toNat default).getD x41.toNat default).f_Body).length : Int) then (((([a_0, a_1].getD x18.toNat default).getD x41.toNat default).f_Body).length : Int) else (if (((([a_0, a_1].getD x18.toNat default).getD x41.toNat default).f_Sender).length : Int) < (((([a_0, a_1].getD x18.toNat default).getD x41.toNat default).f_Receiver).length : Int) then (((([a_0, a_1].getD x18.toNat default).getD x41.toNat default).f_Receiver).length : Int) else (((([a_0, a_1].getD x18.toNat default).getD x41.toNat default).f_Sender).length : Int)))), hF, h.sub [0, 1, 2, 3, 4, 5, 6, 7, 8, 9, 10, 11, 12] (by rfl)⟩
            · clear h hF
              rintro a w ⟨x51, hF, h⟩
              unfold law28_AuditLetters.j1 at hF
              show Code.wp Tryd.prog _ _ a w
              refine cnd h hF 11 [] [0, 1, 2, 3, 4, 5, 6, 7, 8, 9, 10, 12] (fun hb52 hF h => ?_) (fun hb52 hF h => ?_)
              · refine regS mixed hn hG h [500] (ov [] (op_assign qb) .nil) fun _ a w h => ?_
                refine wp_ret ?_
                obtain rfl := Option.some.inj hF
                exact ⟨ret_ne, rfl, ret1 h Tryd.results4 (r_tmp 0 rfl) [] [] rfl rfl rfl⟩
              · refine wp_skip ?_
                show Code.wp Tryd.prog _ _ a w
                refine reg mixed hn hG h [0, 1, 2, 3, 4, 5, 6, 7, 8, 9, 500, 11] (ov [10] (op_bin bin_add q0 qi) <| od [500] 10 (op_move q0) .nil) fun _ a w h => ?_
                obtain rfl := Option.some.inj hF
                exact ⟨rfl, h.sub [0, 1, 2, 3, 4, 5, 6, 7, 8, 9, 10, 11] (by rfl)⟩
          · refine wp_exit ?_
            obtain rfl := Option.some.inj hF
            exact ⟨exit_ne _, rfl, h.sub [0, 1, 2, 3, 5, 6, 7, 11] (by rfl)⟩
        · clear hl55
          intro e a w hq
          cases cr54 with
          | ret r56 =>
            obtain ⟨rfl, hq⟩ := hq
            obtain rfl := Option.some.inj hF
            exact ⟨ret_ne, rfl, hq⟩
          | next y58 =>
            obtain ⟨rfl, h⟩ := hq
            change SatL c [.slot 0 (slVP S_api_Letter.ck a_0), .slot 1 (slVP S_api_Letter.ck a_1), .slot 2 (slVP (dC 32) a_2), .slot 7 (lpVP (b1 0) 0), .slot 17 (slVP (slC S_api_Letter.ck) [a_0, a_1]), .slot 18 (intVP .i64 ([a_0, a_1].length : Int)), .slot 19 (intVP .i64 x18), .res (lb (b1 0) 44 [one (intVP .u32 a_3.f_Chain), one (intVP .u32 a_3.f_Here), bytesCk 32 a_3.f_Updater, one (slVP (dC 32) a_3.f_Watchers), one (intVP .u64 a_3.f_Window), bytesCk 32 a_3.f_Committed, one (slVP S_api_Timed.ck a_3.f_Roots), one (slVP S_api_State.ck a_3.f_States), one (boolVP a_3.f_Failed), one (boolVP a_3.f_Cut)])] a w at h
            refine inBlock_at ?_
            show Code.wp Tryd.prog _ _ a w
            refine reg mixed hn hG h [0, 1, 2, 3, 4, 5, 500, 7] (ov [6] (op_bin bin_add q0 qi) <| od [500] 6 (op_move q0) .nil) fun _ a w h => ?_
            obtain rfl := Option.some.inj hF
            exact ⟨rfl, h.sub [0, 1, 2, 3, 4, 5, 6, 7] (by rfl)⟩
      · refine wp_exit ?_
        obtain rfl := Option.some.inj hF
        exact ⟨exit_ne _, rfl, h.sub [0, 1, 2, 3, 7] (by rfl)⟩
    · clear hl60
      intro e a w hq
      cases cr59 with
      | ret r61 =>
        obtain ⟨rfl, hq⟩ := hq
        obtain rfl := Option.some.inj hF
        exact ⟨.inl rfl, hq⟩
      | next y63 =>
        obtain ⟨rfl, h⟩ := hq
        change SatL c [.slot 0 (slVP S_api_Letter.ck a_0), .slot 1 (slVP S_api_Letter.ck a_1), .slot 2 (slVP (dC 32) a_2), .slot 7 (lpVP (b1 0) 0), .res (lb (b1 0) 44 [one (intVP .u32 a_3.f_Chain), one (intVP .u32 a_3.f_Here), bytesCk 32 a_3.f_Updater, one (slVP (dC 32) a_3.f_Watchers), one (intVP .u64 a_3.f_Window), bytesCk 32 a_3.f_Committed, one (slVP S_api_Timed.ck a_3.f_Roots), one (slVP S_api_State.ck a_3.f_States), one (boolVP a_3.f_Failed), one (boolVP a_3.f_Cut)])] a w at h
        refine inBlock_at ?_
        show Code.wp Tryd.prog _ _ a w
        refine wp_seq ?_
        refine wp_seq ?_
        refine wp_cut (fun a w => ∃ (x64 : Bool), law28_AuditLetters.j2 a_0 a_1 a_2 a_3 x64 = some r ∧ SatL c [.slot 0 (slVP S_api_Letter.ck a_0), .slot 1 (slVP S_api_Letter.ck a_1), .slot 2 (slVP (dC 32) a_2), .slot 7 (lpVP (b1 0) 0), .slot 55 (boolVP x64), .res (lb (b1 0) 44 [one (intVP .u32 a_3.f_Chain), one (intVP .u32 a_3.f_Here), bytesCk 32 a_3.f_Updater, one (slVP (dC 32) a_3.f_Watchers), one (intVP .u64 a_3.f_Window), bytesCk 32 a_3.f_Committed, one (slVP S_api_Timed.ck a_3.f_Roots), one (slVP S_api_State.ck a_3.f_States), one (boolVP a_3.f_Failed), one (boolVP a_3.f_Cut)])] a w) ?_ ?_
        · rcases Bool.eq_false_or_eq_true (decide ((60 : Int) < (a_2.length : Int))) with hb75 | hb75
          · replace hF := tt_of hb75 hF
            refine reg mixed hn hG h [0, 1, 2, 3, 500, 4] (ov [2] (op_move q0) <| ov [500] (op_len_sl Tryd.underlying37 q0) <| ov [500] (op_bin bin_gtr q0 qi) <| ov [500] (op_move q0) <| oe [500] [] (GOk.off_v (want := false) hb75 rfl rfl rfl rfl) <| oe [501] [] (GOk.off_v (want := false) hb75 rfl rfl rfl rfl) <| oe [502] [] (GOk.off_v (want := false) hb75 rfl rfl rfl rfl) <| oe [503] [] (GOk.off_v (want := false) hb75 rfl rfl rfl rfl) <| ov [504] (op_pick_t hb75 q0 qb) .nil) fun _ a w h => ?_
            exact ⟨true, hF, h.sub [0, 1, 2, 3, 4, 5] (by rfl)⟩
          · replace hF := ff_of hb75 hF
            refine reg mixed hn hG h [0, 1, 2, 3, 500, 4] (ov [2] (op_move q0) <| ov [500] (op_len_sl Tryd.underlying37 q0) <| ov [500] (op_bin bin_gtr q0 qi) <| ov [500] (op_move q0) <| oe [500, 3] [] (GOk.on_eq hb75 rfl rfl rfl (op_fieldAddr_lbm (p := (b1 0)) (n := 1) 0 69 Tryd.underlying44 rfl Tryd.sizeOf42 (by decide) q0 rfl)) <| oe [501, 500, 4] [] (GOk.on_eq hb75 rfl rfl rfl (op_load_lb1 [one (intVP .u32 a_3.f_Chain), one (intVP .u32 a_3.f_Here), bytesCk 32 a_3.f_Updater, one (slVP (dC 32) a_3.f_Watchers), one (intVP .u64 a_3.f_Window), bytesCk 32 a_3.f_Committed, one (slVP S_api_Timed.ck a_3.f_Roots)] [one (boolVP a_3.f_Failed), one (boolVP a_3.f_Cut)] 1 Tryd.isAgg42 q0 rfl rfl)) <| oe [502, 500] [] (GOk.on_eq hb75 rfl rfl rfl (op_len_sl Tryd.underlying42 q0)) <| oe [503, 500] [] (GOk.on_eq hb75 rfl rfl rfl (op_bin bin_gtr q0 qi)) <| ov [504, 500] (op_pick_f hb75 q0 q1) .nil) fun _ a w h => ?_
            exact ⟨decide ((200 : Int) < (a_3.f_States.length : Int)), hF, h.sub [0, 1, 2, 3, 4, 5] (by rfl)⟩
        · clear h hF
          rintro a w ⟨x64, hF, h⟩
          unfold law28_AuditLetters.j2 at hF
          show Code.wp Tryd.prog _ _ a w
          refine cnd h hF 4 [] [0, 1, 2, 3, 5] (fun hb65 hF h => ?_) (fun hb65 hF h => ?_)
          · refine regS mixed hn hG h [500] (ov [] (op_assign qb) .nil) fun _ a w h => ?_
            refine wp_ret ?_
            obtain rfl := Option.some.inj hF
            exact ⟨.inl rfl, ret1 h Tryd.results4 (r_tmp 0 rfl) [] [] rfl rfl rfl⟩
          · refine wp_skip ?_
            show Code.wp Tryd.prog _ _ a w
            refine wp_seq ?_
            obtain ⟨r66, hr66, hF⟩ := bind_some hF
            obtain ⟨r67, hr67, hF⟩ := bind_some hF
            refine wp_cut (fun a w => ∃ (x72 : Bool), law28_AuditLetters.j3 x72 = some r ∧ SatL c [.slot 8 (boolVP x72)] a w) ?_ ?_
            · rcases Bool.eq_false_or_eq_true (decide (r66 = r67)) with hb73 | hb73
              · replace hF := tt_of hb73 hF
                obtain ⟨r68, hr68, hF⟩ := bind_some hF
                obtain ⟨r69, hr69, hF⟩ := bind_some hF
                rcases Bool.eq_false_or_eq_true (decide (r68 = r69)) with hb74 | hb74
                · replace hF := tt_of hb74 hF
                  obtain ⟨r70, hr70, hF⟩ := bind_some hF
                  obtain ⟨r71, hr71, hF⟩ := bind_some hF
                  refine reg mixed hn hG h [500] (ov [0] (op_move q0) <| ov [1] (op_move q0) <| oc [501, 500] [] Tryd.call18 (audit_Foreign_ok hr66) ⟨q0, q1, trivial⟩ <| ov [0] (op_move q0) <| ov [1] (op_move q0) <| oc [501, 500] [] Tryd.call19 (ref28_Foreign_ok hr67) ⟨q0, q1, trivial⟩ <| ov [503, 500] (op_bin bin_eql q0 q1) <| ov [500] (op_move q0) <| oe [500, 1] [] (GOk.on_eq hb73 rfl rfl rfl (op_move q0)) <| oe [501, 500] [] (GOk.on_eq hb73 rfl rfl rfl (op_call Tryd.call20 (audit_Again_ok hr68) ⟨q0, trivial⟩)) <| oe [502, 1] [] (GOk.on_eq hb73 rfl rfl rfl (op_move q0)) <| oe [503, 500] [] (GOk.on_eq hb73 rfl rfl rfl (op_call Tryd.call21 (ref28_Again_ok hr69) ⟨q0, trivial⟩)) <| oe [504, 502, 500] [] (GOk.on_eq hb73 rfl rfl rfl (op_bin bin_eql q0 q1)) <| ov [505, 500] (op_pick_t hb73 q0 q1) <| ov [500] (op_move q0) <| oe [500, 0] [] (GOk.on_eq hb74 rfl rfl rfl (op_move q0)) <| oe [501, 2] [] (GOk.on_eq hb74 rfl rfl rfl (op_move q0)) <| oe [502, 3, 4] [] (GOk.on_eq hb74 rfl rfl rfl (op_load_w 1 Tryd.isAgg44 Tryd.sizeOf44 q0)) <| oe [503, 502, 501, 500] [] (GOk.on_eq hb74 rfl rfl rfl (op_call Tryd.call22 (audit_Open_ok hr70) ⟨q0, q1, q2, trivial⟩)) <| oe [504, 0] [] (GOk.on_eq hb74 rfl rfl rfl (op_move q0)) <| oe [505, 2] [] (GOk.on_eq hb74 rfl rfl rfl (op_move q0)) <| oe [506, 3, 4] [] (GOk.on_eq hb74 rfl rfl rfl (op_load_w 1 Tryd.isAgg44 Tryd.sizeOf44 q0)) <| oe [507, 502, 501, 500] [] (GOk.on_eq hb74 rfl rfl rfl (op_call Tryd.call23 (ref28_Open_ok hr71) ⟨q0, q1, q2, trivial⟩)) <| oe [508, 504, 500] [] (GOk.on_eq hb74 rfl rfl rfl (op_bin bin_eql q0 q1)) <| ov [509, 500] (op_pick_t hb74 q0 q1) <| ov [500] (op_assign q0) .nil) fun _ a w h => ?_
                  exact ⟨decide (r70 = r71), hF, h.sub [0] (by rfl)⟩
                · replace hF := ff_of hb74 hF
                  refine reg mixed hn hG h [500] (ov [0] (op_move q0) <| ov [1] (op_move q0) <| oc [501, 500] [] Tryd.call18 (audit_Foreign_ok hr66) ⟨q0, q1, trivial⟩ <| ov [0] (op_move q0) <| ov [1] (op_move q0) <| oc [501, 500] [] Tryd.call19 (ref28_Foreign_ok hr67) ⟨q0, q1, trivial⟩ <| ov [503, 500] (op_bin bin_eql q0 q1) <| ov [500] (op_move q0) <| oe [500, 1] [] (GOk.on_eq hb73 rfl rfl rfl (op_move q0)) <| oe [501, 500] [] (GOk.on_eq hb73 rfl rfl rfl (op_call Tryd.call20 (audit_Again_ok hr68) ⟨q0, trivial⟩)) <| oe [502, 1] [] (GOk.on_eq hb73 rfl rfl rfl (op_move q0)) <| oe [503, 500] [] (GOk.on_eq hb73 rfl rfl rfl (op_call Tryd.call21 (ref28_Again_ok hr69) ⟨q0, trivial⟩)) <| oe [504, 502, 500] [] (GOk.on_eq hb73 rfl rfl rfl (op_bin bin_eql q0 q1)) <| ov [505, 500] (op_pick_t hb73 q0 q1) <| ov [500] (op_move q0) <| oe [500] [] (GOk.off_v (want := true) hb74 rfl rfl rfl rfl) <| oe [501] [] (GOk.off_v (want := true) hb74 rfl rfl rfl rfl) <| oe [502] [] (GOk.off_v (want := true) hb74 rfl rfl rfl rfl) <| oe [503] [] (GOk.off_v (want := true) hb74 rfl rfl rfl rfl) <| oe [504] [] (GOk.off_v (want := true) hb74 rfl rfl rfl rfl) <| oe [505] [] (GOk.off_v (want := true) hb74 rfl rfl rfl rfl) <| oe [506] [] (GOk.off_v (want := true) hb74 rfl rfl rfl rfl) <| oe [507] [] (GOk.off_v (want := true) hb74 rfl rfl rfl rfl) <| oe [508] [] (GOk.off_v (want := true) hb74 rfl rfl rfl rfl) <| ov [509] (op_pick_f hb74 q0 qb) <| ov [500] (op_assign q0) .nil) fun _ a w h => ?_
                  exact ⟨false, hF, h.sub [0] (by rfl)⟩
              · replace hF := ff_of hb73 hF
                refine reg mixed hn hG h [500] (ov [0] (op_move q0) <| ov [1] (op_move q0) <| oc [501, 500] [] Tryd.call18 (audit_Foreign_ok hr66) ⟨q0, q1, trivial⟩ <| ov [0] (op_move q0) <| ov [1] (op_move q0) <| oc [501, 500] [] Tryd.call19 (ref28_Foreign_ok hr67) ⟨q0, q1, trivial⟩ <| ov [503, 500] (op_bin bin_eql q0 q1) <| ov [500] (op_move q0) <| oe [500] [] (GOk.off_v (want := true) hb73 rfl rfl rfl rfl) <| oe [501] [] (GOk.off_v (want := true) hb73 rfl rfl rfl rfl) <| oe [502] [] (GOk.off_v (want := true) hb73 rfl rfl rfl rfl) <| oe [503] [] (GOk.off_v (want := true) hb73 rfl rfl rfl rfl) <| oe [504] [] (GOk.off_v (want := true) hb73 rfl rfl rfl rfl) <| ov [505] (op_pick_f hb73 q0 qb) <| ov [500] (op_move q0) <| oe [500] [] (GOk.off_v (want := true) rfl rfl rfl rfl rfl) <| oe [501] [] (GOk.off_v (want := true) rfl rfl rfl rfl rfl) <| oe [502] [] (GOk.off_v (want := true) rfl rfl rfl rfl rfl) <| oe [503] [] (GOk.off_v (want := true) rfl rfl rfl rfl rfl) <| oe [504] [] (GOk.off_v (want := true) rfl rfl rfl rfl rfl) <| oe [505] [] (GOk.off_v (want := true) rfl rfl rfl rfl rfl) <| oe [506] [] (GOk.off_v (want := true) rfl rfl rfl rfl rfl) <| oe [507] [] (GOk.off_v (want := true) rfl rfl rfl rfl rfl) <| oe [508] [] (GOk.off_v (want := true) rfl rfl rfl rfl rfl) <| ov [509] (op_pick_f rfl q0 qb) <| ov [500] (op_assign q0) .nil) fun _ a w h => ?_
                exact ⟨false, hF, h.sub [0] (by rfl)⟩
            · clear h hF
              rintro a w ⟨x72, hF, h⟩
              unfold law28_AuditLetters.j3 at hF
              show Code.wp Tryd.prog _ _ a w
              refine wp_ret ?_
              obtain rfl := Option.some.inj hF
              exact ⟨.inl rfl, ret1 h Tryd.results4 (r_tmp 0 rfl) [] [] rfl rfl rfl⟩
end Go.Proofs.YtafeolgdggncnaaDoor
